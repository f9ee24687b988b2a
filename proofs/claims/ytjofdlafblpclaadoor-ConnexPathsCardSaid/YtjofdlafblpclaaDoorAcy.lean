/-
  Contract of hypergraph.Acyclic.
-/
import Derived.Test.YtjofdlafblpclaaDoorRed
namespace Go.Proofs.YtjofdlafblpclaaDoor
open Go.RowKit

/-- The reduction has come to its end. -/
def Fin (n : Nat) (r : List Nat) (g : List Bool) : Prop := AbsSpec r g none ∧ IsoSpec n r none
theorem Run.same {n : Nat} {r0 : List Nat} {g0 : List Bool} {l : List (Int × Int × Int)} {r : List Nat} {g : List Bool} (h : Run n r0 g0 l r g) : ∀ {l' r' g'}, Run n r0 g0 l' r' g' → l.length = l'.length → l = l' ∧ r = r' ∧ g = g' := by
  induction h with
  | nil =>
    intro l' r' g' h' hl
    cases h' with
    | nil => exact ⟨rfl, rfl, rfl⟩
    | abs _ _ => simp at hl
    | iso _ _ _ => simp at hl
  | abs h1 h2 ih =>
    intro l' r' g' h' hl
    cases h' with
    | nil => simp at hl
    | abs k1 k2 =>
      obtain ⟨rfl, rfl, rfl⟩ := ih k1 (by simpa using hl)
      have := AbsSpec.unique h2 k2
      injection this with this
      injection this with e1 e2
      subst e1; subst e2
      exact ⟨rfl, rfl, rfl⟩
    | iso k1 k2 k3 =>
      obtain ⟨rfl, rfl, rfl⟩ := ih k1 (by simpa using hl)
      have := AbsSpec.unique h2 k2
      cases this
  | iso h1 h2 h3 ih =>
    intro l' r' g' h' hl
    cases h' with
    | nil => simp at hl
    | abs k1 k2 =>
      obtain ⟨rfl, rfl, rfl⟩ := ih k1 (by simpa using hl)
      have := AbsSpec.unique h2 k2
      cases this
    | iso k1 k2 k3 =>
      obtain ⟨rfl, rfl, rfl⟩ := ih k1 (by simpa using hl)
      have := IsoSpec.unique h3 k3
      injection this with this
      injection this with e1 e2
      subst e1; subst e2
      exact ⟨rfl, rfl, rfl⟩
theorem Run.back {n : Nat} {r0 : List Nat} {g0 : List Bool} {l : List (Int × Int × Int)} {r : List Nat} {g : List Bool} (h : Run n r0 g0 l r g) : ∀ k, k < l.length → ∃ l' r' g', Run n r0 g0 l' r' g' ∧ l'.length = k ∧ ¬ Fin n r' g' := by
  induction h with
  | nil => intro k hk; simp at hk
  | @abs l r g e f h1 h2 ih =>
    intro k hk
    by_cases hkl : k < l.length
    · exact ih k hkl
    · exact ⟨l, r, g, h1, by simp at hk; omega, fun hf => by have := AbsSpec.unique h2 hf.1; cases this⟩
  | @iso l r g e v h1 h2 h3 ih =>
    intro k hk
    by_cases hkl : k < l.length
    · exact ih k hkl
    · exact ⟨l, r, g, h1, by simp at hk; omega, fun hf => by have := IsoSpec.unique h3 hf.2; cases this⟩
theorem Run.final {n : Nat} {r0 : List Nat} {g0 : List Bool} {l l' : List (Int × Int × Int)} {r r' : List Nat} {g g' : List Bool} (h : Run n r0 g0 l r g) (hf : Fin n r g) (h' : Run n r0 g0 l' r' g') (hf' : Fin n r' g') : l = l' ∧ r = r' ∧ g = g' := by
  rcases Nat.lt_trichotomy l.length l'.length with hlt | heq | hlt
  · obtain ⟨l2, r2, g2, h2, hl2, hn⟩ := h'.back _ hlt
    obtain ⟨_, rfl, rfl⟩ := h.same h2 hl2.symm
    exact absurd hf hn
  · exact h.same h' heq
  · obtain ⟨l2, r2, g2, h2, hl2, hn⟩ := h.back _ hlt
    obtain ⟨_, rfl, rfl⟩ := h'.same h2 hl2.symm
    exact absurd hf' hn
/-- The reduction removes everything. -/
def Acyc (n : Nat) (es : List Nat) : Prop := ∃ l r g, Run n es (List.replicate es.length false) l r g ∧ Fin n r g ∧ ∀ x ∈ r, x = 0

set_option maxHeartbeats 1000000 in
theorem nz_any (x : Nat) (w : World) : Calls Tryd.prog 30 #[.int .u32 x] w fun e w' => e = .returned (.bool ((x : Int) != 0)) ∧ w = w' := by
  go_enter Tryd.func30, Tryd.ntmps30
  go_wp2_with fail
  go_ret
  exact ⟨rfl, rfl⟩
theorem callNz (args : Array Value) (W : World) : (callFunc 30 args).run Tryd.prog W = .ok (.enter 30 args) W := by
  kernel_rfl

/-- The place of the first number that a test meets, or -1. -/
def firstAt (p : Nat → Bool) (l : List Nat) : Int := match l.findIdx? p with | some i => i | none => -1

theorem firstAt_some {p : Nat → Bool} {l : List Nat} {k : Nat} (hk : k < l.length) (h1 : p (nth l k) = true) (h2 : ∀ j, j < k → p (nth l j) = false) : firstAt p l = k := by
  have : l.findIdx? p = some k := by
    rw [List.findIdx?_eq_some_iff_getElem]
    refine ⟨hk, by rw [← nth_eq hk]; exact h1, fun j hj => ?_⟩
    rw [← nth_eq (by omega), h2 j hj]; simp
  simp [firstAt, this]
theorem firstAt_none {p : Nat → Bool} {l : List Nat} (h : ∀ j, j < l.length → p (nth l j) = false) : firstAt p l = -1 := by
  have : l.findIdx? p = none := by
    rw [List.findIdx?_eq_none_iff]
    intro x hx
    obtain ⟨j, hj, rfl⟩ := List.getElem_of_mem hx
    rw [← nth_eq hj]; exact h j hj
  simp [firstAt, this]

set_option maxHeartbeats 1000000 in
theorem indexFunc_any (A : Option Addr) (es : List Nat) (len c : Nat) (K : Nat) (caps : Array Value) (p : Nat → Bool) (w : World) (hr : Es w w.heap.size A len es)
    (hK : ∀ (args : Array Value) (W : World), (callFunc K args).run Tryd.prog W = .ok (.enter K args) W)
    (hp : ∀ x W, x ∈ es → Below w.heap.size w W → Calls Tryd.prog K (#[.int .u32 (x : Int)] ++ caps) W fun e W' => e = .returned (.bool (p x)) ∧ Below W.heap.size W W') :
    Calls Tryd.prog 38 #[.slice A len c, .func (.func K) #[] caps] w fun e w' => e = .returned (.int .i64 (firstAt p es)) ∧ Below w.heap.size w w' := by
  have hle := hr.le
  have HLEN := Lib.hid hr.len
  have HR := Lib.hid hr; clear hr
  have HP := Lib.hid hp; clear hp
  go_enter Tryd.func38, Tryd.ntmps38
  go_wp2_with fail
  go_loopw [5, 8] (fun _ i wr => ∃ k : Nat, k ≤ len ∧ i = .int .i64 k ∧ Hid ((∀ j, j < k → p (nth es j) = false) ∧ Below w.heap.size w wr)) (fun _ i _ => len - (intOf i).toNat)
  case atStart => exact ⟨0, Nat.zero_le _, rfl, Lib.hid ⟨fun j hj => absurd hj (by omega), Below.refl _ _⟩⟩
  case round =>
    obtain ⟨k, hk, rfl, HI⟩ := hrel
    by_cases hlt : k < len
    · obtain ⟨ad, rfl, hb1, hc⟩ := (HR.out.below HI.out.2).at_ hlt
      have hkl : k < es.length := by have := HLEN.out; omega
      go_wp2_with fail
      refine (HP.out (nth es k) _ (nth_mem hkl) HI.out.2).mono ?_
      rintro e w2 ⟨rfl, hb⟩
      have HB := Lib.hid (bthen HI.out.2 hb HI.out.2.size); clear hb hc
      cases hp : p (nth es k) with
      | true =>
        have H := Lib.hid hp; clear hp
        go_wp2_with fail
        go_ret
        exact ⟨ret_int (firstAt_some hkl H.out HI.out.1).symm, HB.out⟩
      | false =>
        have H := Lib.hid hp; clear hp
        go_wp2_with fail
        refine ⟨⟨k + 1, by omega, by go_num, Lib.hid ⟨fun j hj => ?_, HB.out⟩⟩, by simp [intOf]; omega⟩
        by_cases hjk : j = k
        · rw [hjk]; exact H.out
        · exact HI.out.1 j (by omega)
    · go_wp2_with fail
      go_ret
      exact ⟨ret_int (firstAt_none (fun j hj => HI.out.1 j (by have := HLEN.out; omega))).symm, HI.out.2⟩

set_option maxHeartbeats 1000000 in
theorem containsNz_any (A : Option Addr) (es : List Nat) (len c : Nat) (w : World) (hr : Es w w.heap.size A len es) :
    Calls Tryd.prog 29 #[.slice A len c, .func (.func 30) #[] #[]] w fun e w' => e = .returned (.bool (es.any fun x => (x : Int) != 0)) ∧ Below w.heap.size w w' := by
  have HR := Lib.hid hr; clear hr
  cases ha : es.any fun x => (x : Int) != 0 with
  | true =>
    have hf : 0 ≤ firstAt (fun x => (x : Int) != 0) es := by
      unfold firstAt
      split
      · omega
      · rename_i h
        rw [List.findIdx?_eq_none_iff] at h
        rw [List.any_eq_true] at ha
        obtain ⟨x, hx, hp⟩ := ha
        rw [h x hx] at hp; cases hp
    generalize hq : firstAt (fun x => (x : Int) != 0) es = q at *
    have HQ := Lib.hid hq; clear hq ha
    go_enter Tryd.func29, Tryd.ntmps29
    go_wp2_with fail
    refine (indexFunc_any A es len c 30 #[] (fun x => (x : Int) != 0) _ HR.out callNz (fun x W _ _ => (nz_any x W).mono (by rintro e W' ⟨rfl, rfl⟩; exact ⟨rfl, Below.refl _ _⟩))).mono ?_
    rintro e w1 ⟨rfl, hb⟩
    rw [HQ.out]
    have HB := Lib.hid hb; clear hb
    go_wp2_with fail
    go_ret
    exact ⟨ret_bool (by simp), HB.out⟩
  | false =>
    have hf : firstAt (fun x => (x : Int) != 0) es = -1 := by
      apply firstAt_none
      intro j hj
      rw [List.any_eq_false] at ha
      have := ha _ (nth_mem hj)
      simpa using this
    have HQ := Lib.hid hf; clear hf ha
    go_enter Tryd.func29, Tryd.ntmps29
    go_wp2_with fail
    refine (indexFunc_any A es len c 30 #[] (fun x => (x : Int) != 0) _ HR.out callNz (fun x W _ _ => (nz_any x W).mono (by rintro e W' ⟨rfl, rfl⟩; exact ⟨rfl, Below.refl _ _⟩))).mono ?_
    rintro e w1 ⟨rfl, hb⟩
    rw [HQ.out]
    have HB := Lib.hid hb; clear hb
    go_wp2_with fail
    go_ret
    exact ⟨rfl, HB.out⟩

def RetAcy (w : World) (n : Nat) (es : List Nat) (e : Ending) (w' : World) : Prop := ∃ b : Bool, (b = true ↔ Acyc n es) ∧ e = .returned (.bool b) ∧ Below w.heap.size w w'

set_option maxHeartbeats 1000000 in
theorem acyclic_ok (n : Nat) (A : Option Addr) (es : List Nat) (len c : Nat) (w : World) (hr : Es w w.heap.size A len es) (hcc : checkCode n es = 0) :
    Calls Tryd.prog 14 #[.agg #[.int .i64 n, .slice A len c]] w (RetAcy w n es) := by
  have HR := Lib.hid hr; clear hr
  have HC := Lib.hid hcc; clear hcc
  have HW := Lib.hid (al w (.cells #[.int .i64 n, .slice A len c] 24))
  have HG := Lib.hid (GB.made w 24 (.int .i64 n) (.slice A len c))
  go_enter Tryd.func14, Tryd.ntmps14
  go_wp2_with fail
  refine (check_any n A es len c _ (HR.out.new HW.out)).mono ?_
  rintro e w1 ⟨rfl, hb⟩
  rw [HC.out]
  have HB1 := Lib.hid (bthen HW.out hb (by simp))
  have HG1 := Lib.hid (HG.out.new hb); clear hb
  have g0 := HG1.out.c0; have g1 := HG1.out.c1
  go_wp2_with fail
  refine (reduce_ok n A es len c _ (HR.out.new HB1.out) HC.out).mono ?_
  rintro e w2 ⟨l, r, g, A6, c6, A4, c4, hrun, ha, hi, rfl, -, hE, hb⟩
  have HB2 := Lib.hid (bthen HB1.out hb HB1.out.size); clear hb g0 g1
  have HRUN := Lib.hid (And.intro hrun (And.intro ha hi)); clear hrun ha hi
  have HE := Lib.hid hE; clear hE
  go_wp2_with fail
  refine (containsNz_any A4 r es.length c4 _ HE.out).mono ?_
  rintro e w3 ⟨rfl, hb⟩
  have HB3 := Lib.hid (bthen HB2.out hb HB2.out.size); clear hb
  generalize hq : (r.any fun x => (x : Int) != 0) = q at *
  have HQ := Lib.hid hq; clear hq
  go_wp2_with fail
  go_ret
  refine ⟨!q, ?_, rfl, HB3.out⟩
  have hz : (!q) = true ↔ ∀ x ∈ r, x = 0 := by
    rw [← HQ.out, Bool.not_eq_true', List.any_eq_false]
    constructor
    · intro h x hx; have := h x hx; simpa using this
    · intro h x hx; rw [h x hx]; simp
  rw [hz]
  constructor
  · intro h; exact ⟨l, r, g, HRUN.out.1, HRUN.out.2, h⟩
  · rintro ⟨l', r', g', h1, h2, h3⟩
    obtain ⟨_, rfl, _⟩ := HRUN.out.1.final HRUN.out.2 h1 h2
    exact h3
end Go.Proofs.YtjofdlafblpclaaDoor
