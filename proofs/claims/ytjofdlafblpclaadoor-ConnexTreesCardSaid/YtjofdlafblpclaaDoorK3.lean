/-
Contract of hypergraph.Acyclic.
An acyclic graph has an order of its vertices without a disruptive trio: the vertices in the reverse order of their removal.
A hypergraph is acyclic exactly if its edges have an order in which each edge meets the earlier ones inside of one of them (plain).
-/
import Derived.Test.YtjofdlafblpclaaDoorK2
namespace Go.Proofs.YtjofdlafblpclaaDoor
open Go.RowKit

/-- The reduction has come to its end. -/
def Fin (n : Nat) (r : List Nat) (g : List Bool) : Prop := AbsSpec r g none ∧ IsoSpec n r none
theorem Run.same {n : Nat} {r0 : List Nat} {g0 : List Bool} {l : List (Int × Int × Int)} {r : List Nat} {g : List Bool} (h : Run n r0 g0 l r g) : ∀ {l' r' g'}, Run n r0 g0 l' r' g' → l.length = l'.length → l = l' ∧ r = r' ∧ g = g' := by
  induction h with
  | nil =>
    intro l' r' g' h' hl
    cases h' with
    | nil => exact ⟨rfl, rfl, rfl⟩
    | abs _ _ => simp at hl
    | iso _ _ _ => simp at hl
  | abs h1 h2 ih =>
    intro l' r' g' h' hl
    cases h' with
    | nil => simp at hl
    | abs k1 k2 =>
      obtain ⟨rfl, rfl, rfl⟩ := ih k1 (by simpa using hl)
      have := AbsSpec.unique h2 k2
      injection this with this
      injection this with e1 e2
      subst e1; subst e2
      exact ⟨rfl, rfl, rfl⟩
    | iso k1 k2 k3 =>
      obtain ⟨rfl, rfl, rfl⟩ := ih k1 (by simpa using hl)
      have := AbsSpec.unique h2 k2
      cases this
  | iso h1 h2 h3 ih =>
    intro l' r' g' h' hl
    cases h' with
    | nil => simp at hl
    | abs k1 k2 =>
      obtain ⟨rfl, rfl, rfl⟩ := ih k1 (by simpa using hl)
      have := AbsSpec.unique h2 k2
      cases this
    | iso k1 k2 k3 =>
      obtain ⟨rfl, rfl, rfl⟩ := ih k1 (by simpa using hl)
      have := IsoSpec.unique h3 k3
      injection this with this
      injection this with e1 e2
      subst e1; subst e2
      exact ⟨rfl, rfl, rfl⟩
theorem Run.back {n : Nat} {r0 : List Nat} {g0 : List Bool} {l : List (Int × Int × Int)} {r : List Nat} {g : List Bool} (h : Run n r0 g0 l r g) : ∀ k, k < l.length → ∃ l' r' g', Run n r0 g0 l' r' g' ∧ l'.length = k ∧ ¬ Fin n r' g' := by
  induction h with
  | nil => intro k hk; simp at hk
  | @abs l r g e f h1 h2 ih =>
    intro k hk
    by_cases hkl : k < l.length
    · exact ih k hkl
    · exact ⟨l, r, g, h1, by simp at hk; omega, fun hf => by have := AbsSpec.unique h2 hf.1; cases this⟩
  | @iso l r g e v h1 h2 h3 ih =>
    intro k hk
    by_cases hkl : k < l.length
    · exact ih k hkl
    · exact ⟨l, r, g, h1, by simp at hk; omega, fun hf => by have := IsoSpec.unique h3 hf.2; cases this⟩
theorem Run.final {n : Nat} {r0 : List Nat} {g0 : List Bool} {l l' : List (Int × Int × Int)} {r r' : List Nat} {g g' : List Bool} (h : Run n r0 g0 l r g) (hf : Fin n r g) (h' : Run n r0 g0 l' r' g') (hf' : Fin n r' g') : l = l' ∧ r = r' ∧ g = g' := by
  rcases Nat.lt_trichotomy l.length l'.length with hlt | heq | hlt
  · obtain ⟨l2, r2, g2, h2, hl2, hn⟩ := h'.back _ hlt
    obtain ⟨_, rfl, rfl⟩ := h.same h2 hl2.symm
    exact absurd hf hn
  · exact h.same h' heq
  · obtain ⟨l2, r2, g2, h2, hl2, hn⟩ := h.back _ hlt
    obtain ⟨_, rfl, rfl⟩ := h'.same h2 hl2.symm
    exact absurd hf' hn
/-- The reduction removes everything. -/
def Acyc (n : Nat) (es : List Nat) : Prop := ∃ l r g, Run n es (List.replicate es.length false) l r g ∧ Fin n r g ∧ ∀ x ∈ r, x = 0

set_option maxHeartbeats 1000000 in
theorem nz_any (x : Nat) (w : World) : Calls Tryd.prog 30 #[.int .u32 x] w fun e w' => e = .returned (.bool ((x : Int) != 0)) ∧ w = w' := by
  go_enter Tryd.func30, Tryd.ntmps30
  go_wp2_with fail
  go_ret
  exact ⟨rfl, rfl⟩
theorem callNz (args : Array Value) (W : World) : (callFunc 30 args).run Tryd.prog W = .ok (.enter 30 args) W := by
  kernel_rfl

/-- The place of the first number that a test meets, or -1. -/
def firstAt (p : Nat → Bool) (l : List Nat) : Int := match l.findIdx? p with | some i => i | none => -1

theorem firstAt_some {p : Nat → Bool} {l : List Nat} {k : Nat} (hk : k < l.length) (h1 : p (nth l k) = true) (h2 : ∀ j, j < k → p (nth l j) = false) : firstAt p l = k := by
  have : l.findIdx? p = some k := by
    rw [List.findIdx?_eq_some_iff_getElem]
    refine ⟨hk, by rw [← nth_eq hk]; exact h1, fun j hj => ?_⟩
    rw [← nth_eq (by omega), h2 j hj]; simp
  simp [firstAt, this]
theorem firstAt_none {p : Nat → Bool} {l : List Nat} (h : ∀ j, j < l.length → p (nth l j) = false) : firstAt p l = -1 := by
  have : l.findIdx? p = none := by
    rw [List.findIdx?_eq_none_iff]
    intro x hx
    obtain ⟨j, hj, rfl⟩ := List.getElem_of_mem hx
    rw [← nth_eq hj]; exact h j hj
  simp [firstAt, this]

set_option maxHeartbeats 1000000 in
theorem indexFunc_any (A : Option Addr) (es : List Nat) (len c : Nat) (K : Nat) (caps : Array Value) (p : Nat → Bool) (w : World) (hr : Es w w.heap.size A len es)
    (hK : ∀ (args : Array Value) (W : World), (callFunc K args).run Tryd.prog W = .ok (.enter K args) W)
    (hp : ∀ x W, x ∈ es → Below w.heap.size w W → Calls Tryd.prog K (#[.int .u32 (x : Int)] ++ caps) W fun e W' => e = .returned (.bool (p x)) ∧ Below W.heap.size W W') :
    Calls Tryd.prog 38 #[.slice A len c, .func (.func K) #[] caps] w fun e w' => e = .returned (.int .i64 (firstAt p es)) ∧ Below w.heap.size w w' := by
  have hle := hr.le
  have HLEN := Lib.hid hr.len
  have HR := Lib.hid hr; clear hr
  have HP := Lib.hid hp; clear hp
  go_enter Tryd.func38, Tryd.ntmps38
  go_wp2_with fail
  go_loopw [5, 8] (fun _ i wr => ∃ k : Nat, k ≤ len ∧ i = .int .i64 k ∧ Hid ((∀ j, j < k → p (nth es j) = false) ∧ Below w.heap.size w wr)) (fun _ i _ => len - (intOf i).toNat)
  case atStart => exact ⟨0, Nat.zero_le _, rfl, Lib.hid ⟨fun j hj => absurd hj (by omega), Below.refl _ _⟩⟩
  case round =>
    obtain ⟨k, hk, rfl, HI⟩ := hrel
    by_cases hlt : k < len
    · obtain ⟨ad, rfl, hb1, hc⟩ := (HR.out.below HI.out.2).at_ hlt
      have hkl : k < es.length := by have := HLEN.out; omega
      go_wp2_with fail
      refine (HP.out (nth es k) _ (nth_mem hkl) HI.out.2).mono ?_
      rintro e w2 ⟨rfl, hb⟩
      have HB := Lib.hid (bthen HI.out.2 hb HI.out.2.size); clear hb hc
      cases hp : p (nth es k) with
      | true =>
        have H := Lib.hid hp; clear hp
        go_wp2_with fail
        go_ret
        exact ⟨ret_int (firstAt_some hkl H.out HI.out.1).symm, HB.out⟩
      | false =>
        have H := Lib.hid hp; clear hp
        go_wp2_with fail
        refine ⟨⟨k + 1, by omega, by go_num, Lib.hid ⟨fun j hj => ?_, HB.out⟩⟩, by simp [intOf]; omega⟩
        by_cases hjk : j = k
        · rw [hjk]; exact H.out
        · exact HI.out.1 j (by omega)
    · go_wp2_with fail
      go_ret
      exact ⟨ret_int (firstAt_none (fun j hj => HI.out.1 j (by have := HLEN.out; omega))).symm, HI.out.2⟩

set_option maxHeartbeats 1000000 in
theorem containsNz_any (A : Option Addr) (es : List Nat) (len c : Nat) (w : World) (hr : Es w w.heap.size A len es) :
    Calls Tryd.prog 29 #[.slice A len c, .func (.func 30) #[] #[]] w fun e w' => e = .returned (.bool (es.any fun x => (x : Int) != 0)) ∧ Below w.heap.size w w' := by
  have HR := Lib.hid hr; clear hr
  cases ha : es.any fun x => (x : Int) != 0 with
  | true =>
    have hf : 0 ≤ firstAt (fun x => (x : Int) != 0) es := by
      unfold firstAt
      split
      · omega
      · rename_i h
        rw [List.findIdx?_eq_none_iff] at h
        rw [List.any_eq_true] at ha
        obtain ⟨x, hx, hp⟩ := ha
        rw [h x hx] at hp; cases hp
    generalize hq : firstAt (fun x => (x : Int) != 0) es = q at *
    have HQ := Lib.hid hq; clear hq ha
    go_enter Tryd.func29, Tryd.ntmps29
    go_wp2_with fail
    refine (indexFunc_any A es len c 30 #[] (fun x => (x : Int) != 0) _ HR.out callNz (fun x W _ _ => (nz_any x W).mono (by rintro e W' ⟨rfl, rfl⟩; exact ⟨rfl, Below.refl _ _⟩))).mono ?_
    rintro e w1 ⟨rfl, hb⟩
    rw [HQ.out]
    have HB := Lib.hid hb; clear hb
    go_wp2_with fail
    go_ret
    exact ⟨ret_bool (by simp), HB.out⟩
  | false =>
    have hf : firstAt (fun x => (x : Int) != 0) es = -1 := by
      apply firstAt_none
      intro j hj
      rw [List.any_eq_false] at ha
      have := ha _ (nth_mem hj)
      simpa using this
    have HQ := Lib.hid hf; clear hf ha
    go_enter Tryd.func29, Tryd.ntmps29
    go_wp2_with fail
    refine (indexFunc_any A es len c 30 #[] (fun x => (x : Int) != 0) _ HR.out callNz (fun x W _ _ => (nz_any x W).mono (by rintro e W' ⟨rfl, rfl⟩; exact ⟨rfl, Below.refl _ _⟩))).mono ?_
    rintro e w1 ⟨rfl, hb⟩
    rw [HQ.out]
    have HB := Lib.hid hb; clear hb
    go_wp2_with fail
    go_ret
    exact ⟨rfl, HB.out⟩

def RetAcy (w : World) (n : Nat) (es : List Nat) (e : Ending) (w' : World) : Prop := ∃ b : Bool, (b = true ↔ Acyc n es) ∧ e = .returned (.bool b) ∧ Below w.heap.size w w'

set_option maxHeartbeats 1000000 in
theorem acyclic_ok (n : Nat) (A : Option Addr) (es : List Nat) (len c : Nat) (w : World) (hr : Es w w.heap.size A len es) (hcc : checkCode n es = 0) :
    Calls Tryd.prog 14 #[.agg #[.int .i64 n, .slice A len c]] w (RetAcy w n es) := by
  have HR := Lib.hid hr; clear hr
  have HC := Lib.hid hcc; clear hcc
  have HW := Lib.hid (al w (.cells #[.int .i64 n, .slice A len c] 24))
  have HG := Lib.hid (GB.made w 24 (.int .i64 n) (.slice A len c))
  go_enter Tryd.func14, Tryd.ntmps14
  go_wp2_with fail
  refine (check_any n A es len c _ (HR.out.new HW.out)).mono ?_
  rintro e w1 ⟨rfl, hb⟩
  rw [HC.out]
  have HB1 := Lib.hid (bthen HW.out hb (by simp))
  have HG1 := Lib.hid (HG.out.new hb); clear hb
  have g0 := HG1.out.c0; have g1 := HG1.out.c1
  go_wp2_with fail
  refine (reduce_ok n A es len c _ (HR.out.new HB1.out) HC.out).mono ?_
  rintro e w2 ⟨l, r, g, A6, c6, A4, c4, hrun, ha, hi, rfl, -, hE, hb⟩
  have HB2 := Lib.hid (bthen HB1.out hb HB1.out.size); clear hb g0 g1
  have HRUN := Lib.hid (And.intro hrun (And.intro ha hi)); clear hrun ha hi
  have HE := Lib.hid hE; clear hE
  go_wp2_with fail
  refine (containsNz_any A4 r es.length c4 _ HE.out).mono ?_
  rintro e w3 ⟨rfl, hb⟩
  have HB3 := Lib.hid (bthen HB2.out hb HB2.out.size); clear hb
  generalize hq : (r.any fun x => (x : Int) != 0) = q at *
  have HQ := Lib.hid hq; clear hq
  go_wp2_with fail
  go_ret
  refine ⟨!q, ?_, rfl, HB3.out⟩
  have hz : (!q) = true ↔ ∀ x ∈ r, x = 0 := by
    rw [← HQ.out, Bool.not_eq_true', List.any_eq_false]
    constructor
    · intro h x hx; have := h x hx; simpa using this
    · intro h x hx; rw [h x hx]; simp
  rw [hz]
  constructor
  · intro h; exact ⟨l, r, g, HRUN.out.1, HRUN.out.2, h⟩
  · rintro ⟨l', r', g', h1, h2, h3⟩
    obtain ⟨_, rfl, _⟩ := HRUN.out.1.final HRUN.out.2 h1 h2
    exact h3
end Go.Proofs.YtjofdlafblpclaaDoor
namespace Go.Proofs.YtjofdlafblpclaaDoor

def InR (r : List Nat) (v : Nat) : Prop := ∃ i, i < r.length ∧ (nth r i).testBit v = true
def AdjR (r : List Nat) (a b : Nat) : Prop := ∃ i, i < r.length ∧ (nth r i).testBit a = true ∧ (nth r i).testBit b = true
theorem AdjR.left {r : List Nat} {a b : Nat} (h : AdjR r a b) : InR r a := let ⟨i, h1, h2, _⟩ := h; ⟨i, h1, h2⟩
theorem AdjR.right {r : List Nat} {a b : Nat} (h : AdjR r a b) : InR r b := let ⟨i, h1, _, h2⟩ := h; ⟨i, h1, h2⟩
theorem AdjR.symm {r : List Nat} {a b : Nat} (h : AdjR r a b) : AdjR r b a := let ⟨i, h1, h2, h3⟩ := h; ⟨i, h1, h3, h2⟩
theorem andn_zero_bits {x y v : Nat} (hx : x < 2 ^ 32) (hy : y < 2 ^ 32) (h : andn x y = 0) (hv : x.testBit v = true) : y.testBit v = true := by
  have h1 := testBit_andn (i := v) hy hx
  rw [h, hv] at h1
  simp at h1
  exact h1
theorem nth_set_ne {r : List Nat} {e i x : Nat} (h : i ≠ e) : nth (r.set e x) i = nth r i := by
  simp [nth, List.getD, List.getElem?_set, Ne.symm h]
theorem nth_set_eq {r : List Nat} {e x : Nat} (h : e < r.length) : nth (r.set e x) e = x := by
  simp [nth, List.getD, h]
section
variable {n : Nat} {r : List Nat} {g : List Bool} {e f v : Nat}
theorem abs_adj (hb : ∀ x ∈ r, x < 2 ^ 32) (h : AbsSpec r g (some (e, f))) (a b : Nat) : AdjR (r.set e 0) a b ↔ AdjR r a b := by
  obtain ⟨he, hf, hab, _, _⟩ := h
  obtain ⟨hne, _, _, hz⟩ := absorbs_parts hab
  constructor
  · rintro ⟨i, hi, h1, h2⟩
    by_cases hie : i = e
    · rw [hie, nth_set_eq he] at h1; simp at h1
    · rw [nth_set_ne hie] at h1 h2
      exact ⟨i, by simpa using hi, h1, h2⟩
  · rintro ⟨i, hi, h1, h2⟩
    by_cases hie : i = e
    · subst hie
      refine ⟨f, by simpa using hf, ?_, ?_⟩
      · rw [nth_set_ne (Ne.symm hne)]; exact andn_zero_bits (hb _ (nth_mem he)) (hb _ (nth_mem hf)) hz h1
      · rw [nth_set_ne (Ne.symm hne)]; exact andn_zero_bits (hb _ (nth_mem he)) (hb _ (nth_mem hf)) hz h2
    · exact ⟨i, by simpa using hi, by rw [nth_set_ne hie]; exact h1, by rw [nth_set_ne hie]; exact h2⟩
theorem inR_adj (r : List Nat) (a : Nat) : InR r a ↔ AdjR r a a := ⟨fun ⟨i, h, h1⟩ => ⟨i, h, h1, h1⟩, fun h => h.left⟩
theorem iso_bit (hn : n ≤ 32) (hb : ∀ x ∈ r, x < 2 ^ 32) (h : IsoSpec n r (some (e, v))) (i a : Nat) (hi : i < r.length) : (nth (r.set e (andn (nth r e) (2 ^ v))) i).testBit a = ((nth r i).testBit a && decide (¬ (i = e ∧ a = v))) := by
  obtain ⟨hv, he, _, _, _⟩ := h
  by_cases hie : i = e
  · subst hie
    rw [nth_set_eq he, testBit_andn (pow2_lt32 (by omega)) (hb _ (nth_mem he)), Nat.testBit_two_pow]
    congr 1
    by_cases hav : a = v
    · simp [hav]
    · simp [hav, Ne.symm hav]
  · rw [nth_set_ne hie]; simp [hie]
theorem iso_out (hn : n ≤ 32) (hb : ∀ x ∈ r, x < 2 ^ 32) (h : IsoSpec n r (some (e, v))) : ¬ InR (r.set e (andn (nth r e) (2 ^ v))) v := by
  rintro ⟨i, hi, h1⟩
  have hi' : i < r.length := by simpa using hi
  rw [iso_bit hn hb h i v hi'] at h1
  simp at h1
  obtain ⟨_, he, hbit, ho, _⟩ := h
  exact h1.2 (countP_one (p := fun x => x.testBit v) hi' he h1.1 hbit ho)
theorem iso_adj (hn : n ≤ 32) (hb : ∀ x ∈ r, x < 2 ^ 32) (h : IsoSpec n r (some (e, v))) {a b : Nat} (ha : a ≠ v) (hbv : b ≠ v) : AdjR (r.set e (andn (nth r e) (2 ^ v))) a b ↔ AdjR r a b := by
  constructor
  · rintro ⟨i, hi, h1, h2⟩
    have hi' : i < r.length := by simpa using hi
    rw [iso_bit hn hb h i _ hi'] at h1 h2
    simp at h1 h2
    exact ⟨i, hi', h1.1, h2.1⟩
  · rintro ⟨i, hi, h1, h2⟩
    refine ⟨i, by simpa using hi, ?_, ?_⟩
    · rw [iso_bit hn hb h i _ hi, h1]; simp [ha]
    · rw [iso_bit hn hb h i _ hi, h2]; simp [hbv]
end
theorem Run.bound {n : Nat} {r0 r : List Nat} {g0 g : List Bool} {l : List (Int × Int × Int)} (h : Run n r0 g0 l r g) (hb : ∀ x ∈ r0, x < 2 ^ 32) : ∀ x ∈ r, x < 2 ^ 32 := by
  induction h with
  | nil => exact hb
  | abs h1 h2 ih => exact set_lt ih (by omega)
  | iso h1 h2 h3 ih => exact set_lt ih (Nat.lt_of_le_of_lt Nat.and_le_left (ih _ (nth_mem h3.2.1)))
/-- What holds of the vertices that have been removed so far, in the order of their removal. -/
structure Elim (n : Nat) (es r : List Nat) (ord : List Nat) : Prop where
  nodup : ord.Nodup
  lt : ∀ v ∈ ord, v < n
  gone : ∀ v ∈ ord, ¬ InR r v
  all : ∀ v, InR es v → v ∈ ord ∨ InR r v
  adj : ∀ a b, InR r a → InR r b → (AdjR es a b ↔ AdjR r a b)
  clique : ∀ j v, ord[j]? = some v → ∀ a b, AdjR es a v → AdjR es b v → a ∉ ord.take (j + 1) → b ∉ ord.take (j + 1) → AdjR es a b
theorem Run.elim {n : Nat} (hn : n ≤ 32) {es r : List Nat} {g0 g : List Bool} {l : List (Int × Int × Int)} (h : Run n es g0 l r g) (hb : ∀ x ∈ es, x < 2 ^ 32) : ∃ ord, Elim n es r ord := by
  induction h with
  | nil => exact ⟨[], List.nodup_nil, by simp, by simp, fun v h => .inr h, fun a b _ _ => Iff.rfl, by simp⟩
  | @abs l r g e f h1 h2 ih =>
    obtain ⟨ord, E⟩ := ih
    have hin : ∀ v, InR (r.set e 0) v ↔ InR r v := fun v => by rw [inR_adj, inR_adj]; exact abs_adj (h1.bound hb) h2 v v
    refine ⟨ord, E.nodup, E.lt, fun v hv h => E.gone v hv ((hin v).1 h), fun v h => (E.all v h).imp id (hin v).2, fun a b ha hb' => ?_, E.clique⟩
    rw [E.adj a b ((hin a).1 ha) ((hin b).1 hb'), abs_adj (h1.bound hb) h2]
  | @iso l r g e v h1 h2 h3 ih =>
    obtain ⟨ord, E⟩ := ih
    have hbr := h1.bound hb
    have hvin : InR r v := ⟨e, h3.2.1, h3.2.2.1⟩
    have hvo : v ∉ ord := fun h => E.gone v h hvin
    have hout := iso_out hn hbr h3
    have hin : ∀ u, u ≠ v → (InR (r.set e (andn (nth r e) (2 ^ v))) u ↔ InR r u) := fun u hu => by rw [inR_adj, inR_adj]; exact iso_adj hn hbr h3 hu hu
    refine ⟨ord ++ [v], ?_, ?_, ?_, ?_, ?_, ?_⟩
    · rw [List.nodup_append]
      exact ⟨E.nodup, by simp, fun a ha b hb' => by simp at hb'; subst hb'; intro h; subst h; exact hvo ha⟩
    · intro u hu
      rcases List.mem_append.1 hu with h | h
      · exact E.lt u h
      · simp at h; subst h; exact h3.1
    · intro u hu h
      rcases List.mem_append.1 hu with h' | h'
      · by_cases huv : u = v
        · subst huv; exact hout h
        · exact E.gone u h' ((hin u huv).1 h)
      · simp at h'; subst h'; exact hout h
    · intro u hu
      by_cases huv : u = v
      · subst huv; left; simp
      · rcases E.all u hu with h | h
        · left; simp [h]
        · right; exact (hin u huv).2 h
    · intro a b ha hb'
      have hav : a ≠ v := fun h => by subst h; exact hout ha
      have hbv : b ≠ v := fun h => by subst h; exact hout hb'
      rw [E.adj a b ((hin a hav).1 ha) ((hin b hbv).1 hb'), iso_adj hn hbr h3 hav hbv]
    · intro j u hj a b ha hb' hna hnb
      by_cases hjl : j < ord.length
      · rw [List.getElem?_append_left hjl] at hj
        rw [List.take_append_of_le_length (by omega)] at hna hnb
        exact E.clique j u hj a b ha hb' hna hnb
      · have hjlt : j < (ord ++ [v]).length := (List.getElem?_eq_some_iff.1 hj).1
        have hje : j = ord.length := by simp at hjlt; omega
        subst hje
        simp at hj
        subst hj
        rw [List.take_of_length_le (by simp)] at hna hnb
        simp at hna hnb
        have key : ∀ a, AdjR es a v → a ∉ ord → (nth r e).testBit a = true := by
          intro a ha hao
          have hain : InR r a := (E.all a ha.left).resolve_left hao
          obtain ⟨i, hi, i1, i2⟩ := (E.adj a v hain hvin).1 ha
          have : i = e := countP_one (p := fun x => x.testBit v) hi h3.2.1 i2 h3.2.2.1 h3.2.2.2.1
          rw [← this]; exact i1
        have ka := key a ha hna.1
        have kb := key b hb' hnb.1
        exact (E.adj a b ⟨e, h3.2.1, ka⟩ ⟨e, h3.2.1, kb⟩).2 ⟨e, h3.2.1, ka, kb⟩
end Go.Proofs.YtjofdlafblpclaaDoor
namespace Go.Proofs.YtjofdlafblpclaaDoor

def sub (a b : Nat) : Prop := ∀ v, a.testBit v = true → b.testBit v = true
def inU (l : List Nat) (v : Nat) : Prop := ∃ x ∈ l, x.testBit v = true
/-- The last edge is the head. -/
def rip : List Nat → Prop
  | [] => True
  | e :: l => (l = [] ∨ ∃ f ∈ l, ∀ v, e.testBit v = true → inU l v → f.testBit v = true) ∧ rip l
def Rip (es : List Nat) : Prop := ∃ l, es.Perm l ∧ rip l
theorem Rip.perm {a b : List Nat} (h : a.Perm b) (hr : Rip a) : Rip b := let ⟨l, h1, h2⟩ := hr; ⟨l, h.symm.trans h1, h2⟩

theorem inU_append {a b : List Nat} {v : Nat} : inU (a ++ b) v ↔ inU a v ∨ inU b v := by
  unfold inU
  constructor
  · rintro ⟨x, hx, h⟩
    rcases List.mem_append.1 hx with h1 | h1
    · exact .inl ⟨x, h1, h⟩
    · exact .inr ⟨x, h1, h⟩
  · rintro (⟨x, hx, h⟩ | ⟨x, hx, h⟩)
    · exact ⟨x, by simp [hx], h⟩
    · exact ⟨x, by simp [hx], h⟩
theorem inU_cons {e : Nat} {b : List Nat} {v : Nat} : inU (e :: b) v ↔ e.testBit v = true ∨ inU b v := by
  unfold inU
  constructor
  · rintro ⟨x, hx, h⟩
    rcases List.mem_cons.1 hx with rfl | h1
    · exact .inl h
    · exact .inr ⟨x, h1, h⟩
  · rintro (h | ⟨x, hx, h⟩)
    · exact ⟨e, by simp, h⟩
    · exact ⟨x, by simp [hx], h⟩

/-- The end of an order may be exchanged. -/
theorem rip_pre {s t : List Nat} (ht : rip t) (hp : ∀ h ∈ s, ∃ h' ∈ t, sub h h') : ∀ l1, (∀ x ∈ l1, ∀ v, x.testBit v = true → inU t v → inU s v) → rip (l1 ++ s) → rip (l1 ++ t)
  | [], _, _ => ht
  | x :: l1, hx, hr => by
    obtain ⟨h1, h2⟩ := hr
    refine ⟨?_, rip_pre ht hp l1 (fun y hy => hx y (by simp [hy])) h2⟩
    rcases h1 with h1 | ⟨f, hf, h1⟩
    · obtain ⟨rfl, rfl⟩ := List.append_eq_nil_iff.1 h1
      cases t with
      | nil => exact .inl rfl
      | cons y t =>
        refine .inr ⟨y, by simp, fun v hv hu => ?_⟩
        obtain ⟨z, hz, _⟩ := hx x (by simp) v hv hu
        cases hz
    · right
      have up : ∃ f' ∈ l1 ++ t, sub f f' := by
        rcases List.mem_append.1 hf with h | h
        · exact ⟨f, by simp [h], fun _ h => h⟩
        · obtain ⟨h', hh, hs⟩ := hp f h
          exact ⟨h', by simp [hh], hs⟩
      obtain ⟨f', hf', hs⟩ := up
      refine ⟨f', hf', fun v hv hu => hs v (h1 v hv ?_)⟩
      rcases inU_append.1 hu with h | h
      · exact inU_append.2 (.inl h)
      · exact inU_append.2 (.inr (hx x (by simp) v hv h))
theorem rip_tail : ∀ (l1 : List Nat) {l2 : List Nat}, rip (l1 ++ l2) → rip l2
  | [], _, h => h
  | _ :: l1, _, h => rip_tail l1 h.2
/-- An edge that an earlier one contains may be left out. -/
theorem rip_del_low {l1 l2 : List Nat} {e f : Nat} (h : rip (l1 ++ e :: l2)) (hf : f ∈ l2) (hs : sub e f) : rip (l1 ++ l2) := by
  refine rip_pre (rip_tail l1 h).2 ?_ l1 ?_ h
  · intro y hy
    rcases List.mem_cons.1 hy with rfl | hy
    · exact ⟨f, hf, hs⟩
    · exact ⟨y, hy, fun _ h => h⟩
  · intro x _ v _ hu
    exact inU_cons.2 (.inr hu)
theorem rip_del_hi {e : Nat} {l2 : List Nat} : ∀ (k : Nat) (b : List Nat), b.length ≤ k → ∀ (a : List Nat) (f : Nat), rip (a ++ f :: (b ++ e :: l2)) → sub e f → Rip (a ++ f :: (b ++ l2)) := by
  intro k
  induction k with
  | zero =>
    intro b hb a f h hs
    have : b = [] := List.eq_nil_of_length_eq_zero (by omega)
    subst this
    obtain ⟨h1, h2⟩ := rip_tail a h
    obtain ⟨h3, h4⟩ := h2
    have hfe : ∀ v, f.testBit v = true → inU l2 v → e.testBit v = true ∨ ∃ g ∈ l2, sub e g := by
      intro v hv hu
      rcases h1 with h1 | ⟨g, hg, h1⟩
      · cases h1
      · rcases List.mem_cons.1 hg with rfl | hg
        · exact .inl (h1 v hv (inU_cons.2 (.inr hu)))
        · exact .inr ⟨g, hg, fun u hu => h1 u (hs u hu) (inU_cons.2 (.inl hu))⟩
    by_cases hx : ∃ g ∈ l2, sub e g
    · obtain ⟨g, hg, hx⟩ := hx
      exact ⟨_, List.Perm.refl _, by
        have := rip_del_low (l1 := a ++ [f]) (by simpa using h) hg hx
        simpa using this⟩
    · refine ⟨_, List.Perm.refl _, ?_⟩
      refine rip_pre (s := f :: e :: l2) (t := f :: l2) ⟨?_, h4⟩ ?_ a ?_ (by simpa using h)
      · rcases h3 with h3 | ⟨g, hg, h3⟩
        · exact .inl h3
        · refine .inr ⟨g, hg, fun v hv hu => ?_⟩
          rcases hfe v hv hu with h | h
          · exact h3 v h hu
          · exact absurd h hx
      · intro y hy
        rcases List.mem_cons.1 hy with rfl | hy
        · exact ⟨y, by simp, fun _ h => h⟩
        · rcases List.mem_cons.1 hy with rfl | hy
          · exact ⟨f, by simp, hs⟩
          · exact ⟨y, by simp [hy], fun _ h => h⟩
      · intro x _ v _ hu
        rcases inU_cons.1 hu with h | h
        · exact inU_cons.2 (.inl h)
        · exact inU_cons.2 (.inr (inU_cons.2 (.inr h)))
  | succ k ih =>
    intro b hb a f h hs
    obtain ⟨h1, h2⟩ := rip_tail a h
    rcases h1 with h1 | ⟨g, hg, h1⟩
    · simp at h1
    have heg : sub e g := fun v hv => h1 v (hs v hv) (inU_append.2 (.inr (inU_cons.2 (.inl hv))))
    rcases List.mem_append.1 hg with hg | hg
    · obtain ⟨b1, b2, rfl⟩ := List.append_of_mem hg
      have := ih b2 (by simp at hb; omega) (a ++ f :: b1) g (by simpa using h) heg
      simpa using this
    · rcases List.mem_cons.1 hg with rfl | hg
      · -- the parent is e itself: f takes its place
        have h3 := rip_tail b h2
        have hr1 : rip (b ++ f :: l2) := by
          refine rip_pre (s := g :: l2) (t := f :: l2) ⟨?_, h3.2⟩ ?_ b ?_ h2
          · rcases h3.1 with h4 | ⟨p, hp, h4⟩
            · exact .inl h4
            · refine .inr ⟨p, hp, fun v hv hu => h4 v (h1 v hv (inU_append.2 (.inr (inU_cons.2 (.inr hu))))) hu⟩
          · intro y hy
            rcases List.mem_cons.1 hy with rfl | hy
            · exact ⟨f, by simp, hs⟩
            · exact ⟨y, by simp [hy], fun _ h => h⟩
          · intro x hx v hv hu
            rcases inU_cons.1 hu with h | h
            · exact inU_cons.2 (.inl (h1 v h (inU_append.2 (.inl ⟨x, hx, hv⟩))))
            · exact inU_cons.2 (.inr h)
        refine ⟨a ++ (b ++ f :: l2), List.Perm.append_left a List.perm_middle.symm, ?_⟩
        refine rip_pre (s := f :: (b ++ g :: l2)) hr1 ?_ a ?_ h
        · intro y hy
          rcases List.mem_cons.1 hy with rfl | hy
          · exact ⟨y, by simp, fun _ h => h⟩
          · rcases List.mem_append.1 hy with hy | hy
            · exact ⟨y, by simp [hy], fun _ h => h⟩
            · rcases List.mem_cons.1 hy with rfl | hy
              · exact ⟨f, by simp, hs⟩
              · exact ⟨y, by simp [hy], fun _ h => h⟩
        · intro x _ v _ hu
          rcases inU_append.1 hu with h | h
          · exact inU_cons.2 (.inr (inU_append.2 (.inl h)))
          · rcases inU_cons.1 h with h | h
            · exact inU_cons.2 (.inl h)
            · exact inU_cons.2 (.inr (inU_append.2 (.inr (inU_cons.2 (.inr h)))))
      · exact ⟨_, List.Perm.refl _, by
          have := rip_del_low (l1 := a ++ f :: b) (by simpa using h) hg heg
          simpa using this⟩
/-- An edge inside of another one does not matter. -/
theorem Rip.del {e f : Nat} {l : List Nat} (h : Rip (e :: l)) (hf : f ∈ l) (hs : sub e f) : Rip l := by
  obtain ⟨m, hp, hr⟩ := h
  have hm : e ∈ m := hp.mem_iff.1 (by simp)
  obtain ⟨l1, l2, rfl⟩ := List.append_of_mem hm
  have hp2 : l.Perm (l1 ++ l2) := (List.perm_cons e).1 (hp.trans List.perm_middle)
  have hf2 := hp2.mem_iff.1 hf
  rcases List.mem_append.1 hf2 with h1 | h1
  · obtain ⟨a, b, rfl⟩ := List.append_of_mem h1
    have := rip_del_hi b.length b (Nat.le_refl _) a f (by simpa using hr) hs
    exact this.perm (by simpa using hp2.symm)
  · exact ⟨_, hp2, rip_del_low hr h1 hs⟩
theorem Rip.add {e f : Nat} {l : List Nat} (h : Rip l) (hf : f ∈ l) (hs : sub e f) : Rip (e :: l) := by
  obtain ⟨m, hp, hr⟩ := h
  exact ⟨e :: m, hp.cons e, .inr ⟨f, hp.mem_iff.1 hf, fun v hv _ => hs v hv⟩, hr⟩

/-- The edges that are not removed. -/
def live : List Nat → List Bool → List Nat
  | x :: r, b :: g => if b = true then live r g else x :: live r g
  | _, _ => []
theorem live_split : ∀ {r : List Nat} {g : List Bool} {e : Nat}, g.length = r.length → e < r.length → bget g e = false →
    ∃ l1 l2, live r g = l1 ++ nth r e :: l2 ∧ (∀ x, live (r.set e x) g = l1 ++ x :: l2) ∧ ∀ x, live (r.set e x) (g.set e true) = l1 ++ l2
  | [], _, _, _, h, _ => by simp at h
  | _ :: _, [], _, h, _, _ => by simp at h
  | x :: r, b :: g, 0, hl, _, hb => by
    have : b = false := by simpa [bget] using hb
    subst this
    exact ⟨[], live r g, by simp [live, nth], by simp [live], by simp [live]⟩
  | x :: r, b :: g, e + 1, hl, he, hb => by
    obtain ⟨l1, l2, h1, h2, h3⟩ := live_split (r := r) (g := g) (e := e) (by simpa using hl) (by simpa using he) (by simpa [bget] using hb)
    have hn : nth (x :: r) (e + 1) = nth r e := by simp [nth]
    cases b with
    | true => exact ⟨l1, l2, by simp [live, hn, h1], by simp [live, h2], by simp [live, h3]⟩
    | false => exact ⟨x :: l1, l2, by simp [live, hn, h1], by simp [live, h2], by simp [live, h3]⟩
theorem live_mem {r : List Nat} {g : List Bool} {e : Nat} (hl : g.length = r.length) (he : e < r.length) (hb : bget g e = false) : nth r e ∈ live r g := by
  obtain ⟨l1, l2, h1, _, _⟩ := live_split hl he hb
  rw [h1]; simp
theorem mem_live : ∀ {r : List Nat} {g : List Bool} {x : Nat}, x ∈ live r g → ∃ k, k < r.length ∧ k < g.length ∧ bget g k = false ∧ nth r k = x
  | [], _, _, h => by simp [live] at h
  | _ :: _, [], _, h => by simp [live] at h
  | y :: r, b :: g, x, h => by
    cases b with
    | true =>
      obtain ⟨k, h1, h2, h3, h4⟩ := mem_live (r := r) (g := g) (by simpa [live] using h)
      exact ⟨k + 1, by simpa using h1, by simpa using h2, by simpa [bget] using h3, by simpa [nth] using h4⟩
    | false =>
      rw [live, if_neg (by simp)] at h
      rcases List.mem_cons.1 h with rfl | h
      · exact ⟨0, by simp, by simp, by simp [bget], by simp [nth]⟩
      · obtain ⟨k, h1, h2, h3, h4⟩ := mem_live h
        exact ⟨k + 1, by simpa using h1, by simpa using h2, by simpa [bget] using h3, by simpa [nth] using h4⟩
theorem live_none (r : List Nat) : live r (List.replicate r.length false) = r := by
  induction r with
  | nil => rfl
  | cons x r ih => simp [live, List.replicate_succ, ih]
theorem bget_set {g : List Bool} {e k : Nat} (he : e < g.length) : bget (g.set e true) k = if k = e then true else bget g k := by
  simp only [bget, List.getD, List.getElem?_set]
  by_cases h : e = k
  · subst h; simp [he]
  · simp [h, Ne.symm h]
/-- Counts over the live edges are counts over all. -/
theorem count_live : ∀ {r : List Nat} {g : List Bool} (v : Nat), g.length = r.length → (∀ k, k < r.length → bget g k = true → nth r k = 0) → (live r g).countP (fun e => e.testBit v) = occ r v
  | [], [], _, _, _ => rfl
  | [], _ :: _, _, h, _ => by simp at h
  | _ :: _, [], _, h, _ => by simp at h
  | x :: r, b :: g, v, hl, hz => by
    have ih := count_live (r := r) (g := g) v (by simpa using hl) (fun k hk hb => by
      have := hz (k + 1) (by simpa using hk) (by simpa [bget] using hb)
      simpa [nth] using this)
    cases b with
    | true =>
      have hx : x = 0 := by have := hz 0 (by simp) (by simp [bget]); simpa [nth] using this
      subst hx
      rw [live, if_pos rfl, ih]
      simp [occ]
    | false =>
      rw [live, if_neg (by simp), List.countP_cons, ih, occ, occ, List.countP_cons]

theorem perm_map_inv {f : Nat → Nat} {m l' : List Nat} (h : m.Perm l') : ∀ l : List Nat, m = l.map f → ∃ l'', l.Perm l'' ∧ l' = l''.map f := by
  induction h with
  | nil => intro l hl; exact ⟨l, .refl _, hl⟩
  | cons x _ ih =>
    intro l hl
    cases l with
    | nil => cases hl
    | cons y l =>
      simp only [List.map_cons, List.cons.injEq] at hl
      obtain ⟨l'', h1, h2⟩ := ih l hl.2
      exact ⟨y :: l'', h1.cons y, by simp [hl.1, h2]⟩
  | swap x y t =>
    intro l hl
    match l, hl with
    | a :: b :: l, hl =>
      simp only [List.map_cons, List.cons.injEq] at hl
      exact ⟨b :: a :: l, .swap _ _ _, by simp [hl]⟩
  | trans _ _ ih1 ih2 =>
    intro l hl
    obtain ⟨l1, h1, h2⟩ := ih1 l hl
    obtain ⟨l2, h3, h4⟩ := ih2 l1 h2
    exact ⟨l2, h1.trans h3, h4⟩
/-- Vertices left out. -/
theorem rip_map {φ : Nat → Nat} {P : Nat → Bool} (hφ : ∀ e v, e < 2 ^ 32 → (φ e).testBit v = (e.testBit v && P v)) : ∀ {l : List Nat}, (∀ x ∈ l, x < 2 ^ 32) → rip l → rip (l.map φ)
  | [], _, _ => trivial
  | e :: l, hb, ⟨h1, h2⟩ => by
    refine ⟨?_, rip_map hφ (fun x hx => hb x (by simp [hx])) h2⟩
    rcases h1 with h1 | ⟨f, hf, h1⟩
    · exact .inl (by simp [h1])
    · refine .inr ⟨φ f, List.mem_map.2 ⟨f, hf, rfl⟩, fun v hv hu => ?_⟩
      rw [hφ _ _ (hb e (by simp))] at hv
      rw [hφ _ _ (hb f (by simp [hf]))]
      simp only [Bool.and_eq_true] at hv ⊢
      refine ⟨h1 v hv.1 ?_, hv.2⟩
      obtain ⟨y, hy, hyv⟩ := hu
      obtain ⟨x, hx, rfl⟩ := List.mem_map.1 hy
      rw [hφ _ _ (hb x (by simp [hx]))] at hyv
      simp only [Bool.and_eq_true] at hyv
      exact ⟨x, hx, hyv.1⟩
theorem rip_unmap {φ : Nat → Nat} {v : Nat} (hφ : ∀ e u, e < 2 ^ 32 → (φ e).testBit u = (e.testBit u && decide (u ≠ v))) : ∀ {l : List Nat}, (∀ x ∈ l, x < 2 ^ 32) → l.countP (fun e => e.testBit v) ≤ 1 → rip (l.map φ) → rip l
  | [], _, _, _ => trivial
  | e :: l, hb, hc, ⟨h1, h2⟩ => by
    rw [List.countP_cons] at hc
    refine ⟨?_, rip_unmap hφ (fun x hx => hb x (by simp [hx])) (by omega) h2⟩
    rcases h1 with h1 | ⟨f', hf, h1⟩
    · exact .inl (by simpa using h1)
    · obtain ⟨f, hfl, rfl⟩ := List.mem_map.1 hf
      refine .inr ⟨f, hfl, fun u hu hin => ?_⟩
      obtain ⟨x, hx, hxu⟩ := hin
      by_cases huv : u = v
      · subst huv
        have : 0 < l.countP (fun e => e.testBit u) := List.countP_pos_iff.2 ⟨x, hx, hxu⟩
        rw [hu, if_pos rfl] at hc
        omega
      · have := h1 u (by rw [hφ _ _ (hb e (by simp)), hu]; simp [huv]) ⟨φ x, List.mem_map.2 ⟨x, hx, rfl⟩, by rw [hφ _ _ (hb x (by simp [hx])), hxu]; simp [huv]⟩
        rw [hφ _ _ (hb f (List.mem_cons_of_mem _ hfl))] at this
        simp only [Bool.and_eq_true] at this
        exact this.1

/-- What every state of the reduction keeps. -/
structure Sane (n : Nat) (r : List Nat) (g : List Bool) : Prop where
  len : g.length = r.length
  zero : ∀ k, k < r.length → bget g k = true → nth r k = 0
  lt : ∀ x ∈ r, x < 2 ^ n
section
variable {n : Nat} {r : List Nat} {g : List Bool} {e f v : Nat}
theorem Sane.lt32 (h : Sane n r g) (hn : n ≤ 32) : ∀ x ∈ r, x < 2 ^ 32 := fun x hx => Nat.lt_of_lt_of_le (h.lt x hx) (two_pow_le hn)
theorem Sane.abs (h : Sane n r g) (he : e < r.length) : Sane n (r.set e 0) (g.set e true) := by
  refine ⟨by simp [h.len], fun k hk hb => ?_, fun x hx => ?_⟩
  · rw [bget_set (by rw [h.len]; exact he)] at hb
    by_cases hke : k = e
    · subst hke; exact nth_set_eq (by simpa using hk)
    · rw [if_neg hke] at hb; rw [nth_set_ne hke]; exact h.zero k (by simpa using hk) hb
  · rcases List.mem_or_eq_of_mem_set hx with h1 | h1
    · exact h.lt x h1
    · subst h1; exact pow2_pos n
theorem Sane.live_of (h : Sane n r g) (he : e < r.length) (hv : (nth r e).testBit v = true) : bget g e = false := by
  cases hb : bget g e with
  | false => rfl
  | true => rw [h.zero e he hb] at hv; simp at hv
theorem Sane.iso (h : Sane n r g) (_ : n ≤ 32) (he : e < r.length) (hv : (nth r e).testBit v = true) : Sane n (r.set e (andn (nth r e) (2 ^ v))) g := by
  refine ⟨by simp [h.len], fun k hk hb => ?_, fun x hx => ?_⟩
  · by_cases hke : k = e
    · subst hke; rw [h.live_of he hv] at hb; cases hb
    · rw [nth_set_ne hke]; exact h.zero k (by simpa using hk) hb
  · rcases List.mem_or_eq_of_mem_set hx with h1 | h1
    · exact h.lt x h1
    · subst h1; exact Nat.lt_of_le_of_lt Nat.and_le_left (h.lt _ (nth_mem he))
theorem Sane.live_lt (h : Sane n r g) (hn : n ≤ 32) : ∀ x ∈ live r g, x < 2 ^ 32 := by
  intro x hx
  obtain ⟨k, h1, _, _, rfl⟩ := mem_live hx
  exact h.lt32 hn _ (nth_mem h1)
theorem sub_of_andn {a b : Nat} (ha : a < 2 ^ 32) (hb : b < 2 ^ 32) (h : andn a b = 0) : sub a b := fun _ hv => andn_zero_bits ha hb h hv
theorem andn_of_sub {a b : Nat} (ha : a < 2 ^ 32) (hb : b < 2 ^ 32) (h : sub a b) : andn a b = 0 := by
  apply Nat.eq_of_testBit_eq
  intro i
  rw [testBit_andn hb ha]
  cases hi : a.testBit i with
  | false => simp
  | true => simp [h i hi]
theorem abs_rip (h : Sane n r g) (hn : n ≤ 32) (ha : AbsSpec r g (some (e, f))) : Rip (live r g) ↔ Rip (live (r.set e 0) (g.set e true)) := by
  obtain ⟨h1, h2, h3, _, _⟩ := ha
  obtain ⟨q1, q2, q3, q4⟩ := absorbs_parts h3
  obtain ⟨l1, l2, k1, _, k3⟩ := live_split h.len h1 q2
  have hs := sub_of_andn (h.lt32 hn _ (nth_mem h1)) (h.lt32 hn _ (nth_mem h2)) q4
  have hf : nth r f ∈ l1 ++ l2 := by
    rw [← k3 0]
    have := live_mem (r := r.set e 0) (g := g.set e true) (e := f) (by simp [h.len]) (by simpa using h2) (by rw [bget_set (by rw [h.len]; exact h1), if_neg (Ne.symm q1)]; exact q3)
    rwa [nth_set_ne (Ne.symm q1)] at this
  rw [k1, k3]
  constructor
  · intro hr; exact (hr.perm List.perm_middle).del hf hs
  · intro hr; exact (hr.add hf hs).perm List.perm_middle.symm
theorem map_same {φ : Nat → Nat} : ∀ {l : List Nat}, (∀ x ∈ l, φ x = x) → l.map φ = l
  | [], _ => rfl
  | x :: l, h => by rw [List.map_cons, h x (by simp), map_same (fun y hy => h y (by simp [hy]))]
theorem andn_self {x : Nat} (hx : x < 2 ^ 32) (hv : v < 32) (h : x.testBit v = false) : andn x (2 ^ v) = x := by
  apply Nat.eq_of_testBit_eq
  intro i
  rw [testBit_andn (pow2_lt32 hv) hx, Nat.testBit_two_pow]
  by_cases hi : v = i
  · subst hi; simp [h]
  · simp [hi]
theorem iso_rip (h : Sane n r g) (hn : n ≤ 32) (ha : IsoSpec n r (some (e, v))) : Rip (live r g) ↔ Rip (live (r.set e (andn (nth r e) (2 ^ v))) g) := by
  obtain ⟨h1, h2, h3, h4, _⟩ := ha
  obtain ⟨l1, l2, k1, k2, _⟩ := live_split h.len h2 (h.live_of h2 h3)
  have hc : (live r g).countP (fun e => e.testBit v) = 1 := by rw [count_live v h.len h.zero]; exact h4
  have hlt := h.live_lt hn
  have hv : v < 32 := by omega
  have hφ : ∀ e u, e < 2 ^ 32 → (andn e (2 ^ v)).testBit u = (e.testBit u && decide (u ≠ v)) := by
    intro e u he
    rw [testBit_andn (pow2_lt32 hv) he, Nat.testBit_two_pow]
    congr 1
    by_cases h : u = v
    · simp [h]
    · simp [h, Ne.symm h]
  have hm : live (r.set e (andn (nth r e) (2 ^ v))) g = (live r g).map (fun x => andn x (2 ^ v)) := by
    rw [k2, k1, List.map_append, List.map_cons]
    rw [k1, List.countP_append, List.countP_cons, h3, if_pos rfl] at hc
    rw [k1] at hlt
    rw [map_same (l := l1), map_same (l := l2)]
    · intro x hx
      refine andn_self (hlt x (by simp [hx])) hv ?_
      cases hxv : x.testBit v with
      | false => rfl
      | true =>
        have : 0 < l2.countP (fun e => e.testBit v) := List.countP_pos_iff.2 ⟨x, hx, hxv⟩
        omega
    · intro x hx
      refine andn_self (hlt x (by simp [hx])) hv ?_
      cases hxv : x.testBit v with
      | false => rfl
      | true =>
        have : 0 < l1.countP (fun e => e.testBit v) := List.countP_pos_iff.2 ⟨x, hx, hxv⟩
        omega
  rw [hm]
  constructor
  · rintro ⟨l, hp, hr⟩
    exact ⟨l.map (fun x => andn x (2 ^ v)), hp.map _, rip_map hφ (fun x hx => hlt x (hp.mem_iff.2 hx)) hr⟩
  · rintro ⟨l, hp, hr⟩
    obtain ⟨l', h5, rfl⟩ := perm_map_inv hp _ rfl
    exact ⟨l', h5, rip_unmap hφ (fun x hx => hlt x (h5.mem_iff.2 hx)) (by rw [← h5.countP_eq, hc]; exact Nat.le_refl _) hr⟩
theorem Run.sane {r0 : List Nat} {g0 : List Bool} {l : List (Int × Int × Int)} (h : Run n r0 g0 l r g) (hn : n ≤ 32) (h0 : Sane n r0 g0) : Sane n r g ∧ (Rip (live r0 g0) ↔ Rip (live r g)) := by
  induction h with
  | nil => exact ⟨h0, Iff.rfl⟩
  | abs _ ha ih => exact ⟨ih.1.abs ha.1, ih.2.trans (abs_rip ih.1 hn ha)⟩
  | iso _ _ ha ih => exact ⟨ih.1.iso hn ha.2.1 ha.2.2.1, ih.2.trans (iso_rip ih.1 hn ha)⟩
theorem two_at (hl : g.length = r.length) {a b : Nat} {l : List Nat} (hp : (live r g).Perm (a :: l)) (hb : b ∈ l) : ∃ i j, i ≠ j ∧ i < r.length ∧ j < r.length ∧ bget g i = false ∧ bget g j = false ∧ nth r i = a ∧ nth r j = b := by
  obtain ⟨i, h1, h2, h3, h4⟩ := mem_live (hp.mem_iff.2 (by simp : a ∈ a :: l))
  obtain ⟨l1, l2, k1, _, k3⟩ := live_split hl h1 h3
  have hp2 : (l1 ++ l2).Perm l := by
    rw [k1, h4] at hp
    exact (List.perm_cons a).1 (List.perm_middle.symm.trans hp)
  have hb2 : b ∈ live (r.set i 0) (g.set i true) := by rw [k3]; exact hp2.mem_iff.2 hb
  obtain ⟨j, j1, j2, j3, j4⟩ := mem_live hb2
  rw [bget_set h2] at j3
  have hij : j ≠ i := by
    intro h; rw [if_pos h] at j3; cases j3
  rw [if_neg hij] at j3
  rw [nth_set_ne hij] at j4
  exact ⟨i, j, Ne.symm hij, h1, by simpa using j1, h3, j3, h4, j4⟩
theorem testBit_lt {x : Nat} (hx : x < 2 ^ n) (hv : x.testBit v = true) : v < n := by
  rcases Nat.lt_or_ge v n with h | h
  · exact h
  · rw [Nat.testBit_lt_two_pow (Nat.lt_of_lt_of_le hx (two_pow_le h))] at hv; cases hv
theorem zero_of_bits {x : Nat} (h : ∀ v, x.testBit v = false) : x = 0 := Nat.eq_of_testBit_eq (fun i => by rw [h i]; simp)
/-- Nothing is left of an order. -/
theorem fin_zero (h : Sane n r g) (hn : n ≤ 32) (hf : Fin n r g) (hr : Rip (live r g)) : ∀ x ∈ r, x = 0 := by
  obtain ⟨fa, fi⟩ := hf
  have hcnt : ∀ v, v < n → (live r g).countP (fun e => e.testBit v) ≠ 1 := fun v hv => by rw [count_live v h.len h.zero]; exact fi v hv
  have hno : ∀ x ∈ live r g, x = 0 := by
    obtain ⟨l, hp, hl⟩ := hr
    match l, hp, hl with
    | [], hp, _ => intro x hx; have := hp.mem_iff.1 hx; simp at this
    | [y], hp, _ =>
      intro x hx
      have hxy : x = y := by have := hp.mem_iff.1 hx; simpa using this
      subst hxy
      refine zero_of_bits fun v => ?_
      cases hv : x.testBit v with
      | false => rfl
      | true =>
        obtain ⟨k, h1, _, _, h4⟩ := mem_live hx
        have hvn : v < n := testBit_lt (h.lt x (by rw [← h4]; exact nth_mem h1)) hv
        exact absurd (by rw [hp.countP_eq]; simp [hv]) (hcnt v hvn)
    | y :: z :: l, hp, hl =>
      obtain ⟨h1, _⟩ := hl
      rcases h1 with h1 | ⟨f, hf, h1⟩
      · cases h1
      · obtain ⟨i, j, hij, hi, hj, bi, bj, ei, ej⟩ := two_at h.len hp hf
        have hsub : sub y f := by
          intro v hv
          by_cases hin : inU (z :: l) v
          · exact h1 v hv hin
          · have hvn : v < n := testBit_lt (h.lt y (by rw [← ei]; exact nth_mem hi)) hv
            refine absurd ?_ (hcnt v hvn)
            rw [hp.countP_eq, List.countP_cons, hv, if_pos rfl]
            have : (z :: l).countP (fun e => e.testBit v) = 0 := by
              rw [List.countP_eq_zero]
              intro x hx hxv
              exact hin ⟨x, hx, hxv⟩
            omega
        have h3 := fa i j hi hj
        have h4 : absorbs r g i j = true := by
          have := andn_of_sub (h.lt32 hn _ (nth_mem hi)) (h.lt32 hn _ (nth_mem hj)) (by rw [ei, ej]; exact hsub)
          simp [absorbs, hij, bi, bj, this]
        rw [h3] at h4; cases h4
  intro x hx
  obtain ⟨k, hk, rfl⟩ := List.getElem_of_mem hx
  rw [← nth_eq hk]
  cases hb : bget g k with
  | true => exact h.zero k hk hb
  | false => exact hno _ (live_mem h.len hk hb)
end
theorem rip_zero : ∀ {l : List Nat}, (∀ x ∈ l, x = 0) → rip l
  | [], _ => trivial
  | e :: l, h => by
    refine ⟨?_, rip_zero (fun x hx => h x (by simp [hx]))⟩
    cases l with
    | nil => exact .inl rfl
    | cons y l => exact .inr ⟨y, by simp, fun v hv => by rw [h e (by simp)] at hv; simp at hv⟩
theorem least {P : Nat → Prop} {n : Nat} (h : P n) : ∃ m, P m ∧ ∀ k, k < m → ¬ P k := by
  induction n using Nat.strongRecOn with
  | _ n ih =>
    by_cases hx : ∃ k, k < n ∧ P k
    · obtain ⟨k, hk, hp⟩ := hx; exact ih k hk hp
    · exact ⟨n, h, fun k hk hp => hx ⟨k, hk, hp⟩⟩
theorem abs_exists (r : List Nat) (g : List Bool) : ∃ o, AbsSpec r g o := by
  by_cases h : ∃ e, e < r.length ∧ ∃ f, f < r.length ∧ absorbs r g e f = true
  · obtain ⟨e0, he0⟩ := h
    obtain ⟨e, ⟨he, f0, hf0⟩, hmin⟩ := least (P := fun e => e < r.length ∧ ∃ f, f < r.length ∧ absorbs r g e f = true) he0
    obtain ⟨f, ⟨hf, ha⟩, hmin2⟩ := least (P := fun f => f < r.length ∧ absorbs r g e f = true) hf0
    refine ⟨some (e, f), he, hf, ha, fun e' f' h1 h2 => ?_, fun f' h1 => ?_⟩
    · cases hx : absorbs r g e' f' with
      | false => rfl
      | true => exact absurd ⟨by omega, f', h2, hx⟩ (hmin e' h1)
    · cases hx : absorbs r g e f' with
      | false => rfl
      | true => exact absurd ⟨by omega, hx⟩ (hmin2 f' h1)
  · refine ⟨none, fun e f he hf => ?_⟩
    cases hx : absorbs r g e f with
    | false => rfl
    | true => exact absurd ⟨e, he, f, hf, hx⟩ h
theorem iso_exists (n : Nat) (r : List Nat) : ∃ o, IsoSpec n r o := by
  by_cases h : ∃ v, v < n ∧ occ r v = 1
  · obtain ⟨v0, hv0⟩ := h
    obtain ⟨v, ⟨hv, ho⟩, hmin⟩ := least (P := fun v => v < n ∧ occ r v = 1) hv0
    have : 0 < r.countP (fun e => e.testBit v) := by unfold occ at ho; omega
    obtain ⟨x, hx, hxv⟩ := List.countP_pos_iff.1 this
    obtain ⟨k, hk, rfl⟩ := List.getElem_of_mem hx
    exact ⟨some (k, v), hv, hk, by rw [nth_eq hk]; exact hxv, ho, fun v' hv' h' => hmin v' hv' ⟨by omega, h'⟩⟩
  · exact ⟨none, fun v hv ho => h ⟨v, hv, ho⟩⟩
/-- The reduction ends. -/
theorem run_ends {n : Nat} (hn : n ≤ 32) {r0 : List Nat} {g0 : List Bool} (h0 : Sane n r0 g0) : ∀ (k : Nat) {l : List (Int × Int × Int)} {r : List Nat} {g : List Bool}, Run n r0 g0 l r g → meas n r g ≤ k → ∃ l' r' g', Run n r0 g0 l' r' g' ∧ Fin n r' g' := by
  intro k
  induction k with
  | zero =>
    intro l r g h hk
    obtain ⟨hs, _⟩ := h.sane hn h0
    obtain ⟨o, ha⟩ := abs_exists r g
    match o, ha with
    | some (e, f), ha => have := meas_abs (n := n) hs.len ha; omega
    | none, ha =>
      obtain ⟨o, hi⟩ := iso_exists n r
      match o, hi with
      | some (e, v), hi => have := meas_iso (g := g) hn (hs.lt32 hn) hi; omega
      | none, hi => exact ⟨l, r, g, h, ha, hi⟩
  | succ k ih =>
    intro l r g h hk
    obtain ⟨hs, _⟩ := h.sane hn h0
    obtain ⟨o, ha⟩ := abs_exists r g
    match o, ha with
    | some (e, f), ha => exact ih (h.abs ha) (by have := meas_abs (n := n) hs.len ha; omega)
    | none, ha =>
      obtain ⟨o, hi⟩ := iso_exists n r
      match o, hi with
      | some (e, v), hi => exact ih (h.iso ha hi) (by have := meas_iso (g := g) hn (hs.lt32 hn) hi; omega)
      | none, hi => exact ⟨l, r, g, h, ha, hi⟩
theorem sane_start {n : Nat} {es : List Nat} (hb : ∀ x ∈ es, x < 2 ^ n) : Sane n es (List.replicate es.length false) :=
  ⟨by simp, fun k _ h => by simp [bget, List.getD, List.getElem?_replicate] at h; split at h <;> simp at h, hb⟩
/-- Acyclic: there is such an order. -/
theorem acyc_iff {n : Nat} (hn : n ≤ 32) {es : List Nat} (hb : ∀ x ∈ es, x < 2 ^ n) : Acyc n es ↔ Rip es := by
  have h0 := sane_start hb
  constructor
  · rintro ⟨l, r, g, hrun, _, hz⟩
    have h1 := (hrun.sane hn h0).2
    rw [live_none] at h1
    refine h1.2 ⟨_, .refl _, rip_zero fun x hx => ?_⟩
    obtain ⟨k, hk, _, _, rfl⟩ := mem_live hx
    exact hz _ (nth_mem hk)
  · intro hr
    obtain ⟨l, r, g, hrun, hf⟩ := run_ends hn h0 _ .nil (Nat.le_refl _)
    have h1 := hrun.sane hn h0
    rw [live_none] at h1
    exact ⟨l, r, g, hrun, hf, fin_zero h1.1 hn hf (h1.2.1 hr)⟩
/-- A clique of at least two vertices lies in an edge. -/
theorem rip_clique : ∀ {l : List Nat}, rip l → ∀ (K : Nat → Prop) (a b : Nat), K a → K b → a ≠ b → (∀ x y, K x → K y → x ≠ y → ∃ e ∈ l, e.testBit x = true ∧ e.testBit y = true) → ∃ e ∈ l, ∀ x, K x → e.testBit x = true
  | [], _, K, a, b, ha, hb, hab, hK => by obtain ⟨e, he, _⟩ := hK a b ha hb hab; cases he
  | e :: l, ⟨h1, h2⟩, K, a, b, ha, hb, hab, hK => by
    by_cases hall : ∀ x, K x → e.testBit x = true
    · exact ⟨e, by simp, hall⟩
    · have : ∃ u, K u ∧ e.testBit u = false := by
        apply Classical.byContradiction
        intro hno
        refine hall fun x hx => ?_
        cases hex : e.testBit x with
        | true => rfl
        | false => exact absurd ⟨x, hx, hex⟩ hno
      obtain ⟨u, hu, heu⟩ := this
      have hin : ∀ x, K x → x ≠ u → inU l x := by
        intro x hx hxu
        obtain ⟨y, hy, y1, y2⟩ := hK x u hx hu hxu
        rcases List.mem_cons.1 hy with rfl | hy
        · rw [heu] at y2; cases y2
        · exact ⟨y, hy, y1⟩
      obtain ⟨y, hy, hay⟩ := rip_clique h2 K a b ha hb hab (by
        intro x y hx hy hxy
        obtain ⟨z, hz, z1, z2⟩ := hK x y hx hy hxy
        rcases List.mem_cons.1 hz with rfl | hz
        · have hxu : x ≠ u := by rintro rfl; rw [heu] at z1; cases z1
          have hyu : y ≠ u := by rintro rfl; rw [heu] at z2; cases z2
          rcases h1 with h1 | ⟨f, hf, h1⟩
          · subst h1; obtain ⟨_, h, _⟩ := hin x hx hxu; cases h
          · exact ⟨f, hf, h1 x z1 (hin x hx hxu), h1 y z2 (hin y hy hyu)⟩
        · exact ⟨z, hz, z1, z2⟩)
      exact ⟨y, by simp [hy], hay⟩
end Go.Proofs.YtjofdlafblpclaaDoor
