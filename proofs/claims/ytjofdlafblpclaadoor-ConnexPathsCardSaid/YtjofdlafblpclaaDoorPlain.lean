/-
  Plain facts on numbers, bits and lists that the walks use (no program in sight).
-/
import Derived.WalkKit
import Derived.Laws.BitsAllLaws
namespace Go.Proofs.YtjofdlafblpclaaDoor

theorem two_pow_le {n m : Nat} (h : n ≤ m) : (2:Nat) ^ n ≤ 2 ^ m := Nat.pow_le_pow_right (by omega) h
theorem cast_pow2 (n : Nat) : ((2 ^ n : Nat) : Int) = (2:Int) ^ n := by simp
theorem pow2_pos (n : Nat) : 0 < 2 ^ n := Nat.pos_of_ne_zero (by simp)
theorem below_val (n : Nat) (hn : n ≤ 32) : (IntKind.u64.wrap (IntKind.u64.wrap ((2:Int) ^ n) - 1)) % 4294967296 = ((2 ^ n - 1 : Nat) : Int) := by
  have h1 : 2 ^ n ≤ 2 ^ 32 := two_pow_le hn
  have h2 := pow2_pos n
  rw [← cast_pow2]
  generalize hx : 2 ^ n = x at *
  simp only [IntKind.wrap, IntKind.bits, IntKind.signed]
  omega
theorem bit_of_div (s v : Nat) : (((s : Int) / 2 ^ v).tmod 2 == 1) = s.testBit v := by
  rw [← cast_pow2, show ((s : Int) / ((2 ^ v : Nat) : Int)) = ((s / 2 ^ v : Nat) : Int) from by simp]
  rw [Nat.testBit_eq_decide_div_mod_eq]
  generalize s / 2 ^ v = t
  rw [Int.tmod_eq_emod_of_nonneg (by omega)]
  rw [Bool.eq_iff_iff]
  simp
  omega

theorem testBit_big {s v : Nat} (hs : s < 2 ^ 32) (hv : 32 ≤ v) : s.testBit v = false :=
  Nat.testBit_lt_two_pow (Nat.lt_of_lt_of_le hs (two_pow_le hv))
theorem bit_of_min (s v : Nat) (hs : s < 2 ^ 32) : (((s : Int) / 2 ^ (min v 32)).tmod 2 == 1) = s.testBit v := by
  rw [bit_of_div]
  rcases Nat.le_total v 32 with h | h
  · rw [Nat.min_eq_left h]
  · rw [Nat.min_eq_right h, testBit_big hs h, testBit_big hs (Nat.le_refl _)]
/-- The error number of a graph. -/
def checkCode (n : Int) (es : List Nat) : Int :=
  if n < 0 ∨ 32 < n then 3 else if 64 < es.length then 12 else if es.all (fun e => decide (e < 2 ^ n.toNat)) then 0 else 1
theorem checkCode_zero {n : Int} {es : List Nat} (h : checkCode n es = 0) : 0 ≤ n ∧ n ≤ 32 ∧ es.length ≤ 64 ∧ ∀ e ∈ es, e < 2 ^ n.toNat := by
  unfold checkCode at h
  split at h
  · omega
  · split at h
    · omega
    · split at h
      · rename_i h3
        refine ⟨by omega, by omega, by omega, fun e he => ?_⟩
        simpa using List.all_eq_true.1 h3 e he
      · omega

/-- Element k of a list of numbers (0 outside). -/
def nth (es : List Nat) (k : Nat) : Nat := es.getD k 0
def inth (es : List Int) (k : Nat) : Int := es.getD k 0
theorem nth_eq {es : List Nat} {k : Nat} (h : k < es.length) : nth es k = es[k] := by simp [nth, List.getD, h]
theorem inth_eq {es : List Int} {k : Nat} (h : k < es.length) : inth es k = es[k] := by simp [inth, List.getD, h]
theorem nth_mem {es : List Nat} {k : Nat} (h : k < es.length) : nth es k ∈ es := by rw [nth_eq h]; exact List.getElem_mem h
theorem inth_mem {es : List Int} {k : Nat} (h : k < es.length) : inth es k ∈ es := by rw [inth_eq h]; exact List.getElem_mem h
def U32 (es : List Nat) : List Value := es.map fun (e : Nat) => Value.int .u32 (e : Int)
theorem U32_length (es : List Nat) : (U32 es).length = es.length := by simp [U32]
theorem U32_get {es : List Nat} {k : Nat} {u : Value} (h : (U32 es)[k]? = some u) : u = .int .u32 ((nth es k : Nat) : Int) := by
  simp only [U32, List.getElem?_map, Option.map_eq_some_iff] at h
  obtain ⟨e, he, rfl⟩ := h
  simp [nth, List.getD, he]
def I64 (xs : List Int) : List Value := xs.map fun e => Value.int .i64 e
theorem I64_length (es : List Int) : (I64 es).length = es.length := by simp [I64]
theorem I64_get {es : List Int} {k : Nat} {u : Value} (h : (I64 es)[k]? = some u) : u = .int .i64 (inth es k) := by
  simp only [I64, List.getElem?_map, Option.map_eq_some_iff] at h
  obtain ⟨e, he, rfl⟩ := h
  simp [inth, List.getD, he]
theorem all_take_succ (p : Nat → Bool) (l : List Nat) (k : Nat) (h : k < l.length) : (l.take (k + 1)).all p = ((l.take k).all p && p (nth l k)) := by
  rw [List.take_succ_eq_append_getElem h, List.all_append, nth_eq h]; simp

/-- a without the elements of b (32 bits). -/
def andn (a b : Nat) : Nat := a &&& (4294967295 - b)
theorem testBit_andn {a b i : Nat} (hb : b < 2 ^ 32) (ha : a < 2 ^ 32) : (andn a b).testBit i = (a.testBit i && !b.testBit i) := by
  unfold andn
  rw [Nat.testBit_and, show 4294967295 - b = 2 ^ 32 - (b + 1) from by omega, Nat.testBit_two_pow_sub_succ hb]
  by_cases h : i < 32
  · simp [h]
  · rw [testBit_big ha (by omega)]; simp
theorem andn_lt {a b : Nat} (ha : a < 2 ^ 32) : andn a b < 2 ^ 32 := Nat.lt_of_le_of_lt Nat.and_le_left ha
theorem bits_andNot (a b : Nat) (ha : a < 2 ^ 32) (hb : b < 2 ^ 32) : bits .andNot .u32 (a : Int) (b : Int) = ((andn a b : Nat) : Int) := u32_andNot_nat a b ha hb
theorem bits_and (a b : Nat) (ha : a < 2 ^ 32) (hb : b < 2 ^ 32) : bits .and .u32 (a : Int) (b : Int) = ((a &&& b : Nat) : Int) := u32_and_nat a b ha hb
theorem bits_or (a b : Nat) (ha : a < 2 ^ 32) (hb : b < 2 ^ 32) : bits .or .u32 (a : Int) (b : Int) = ((a ||| b : Nat) : Int) := u32_or_nat a b ha hb
theorem lt_pow_iff {e n : Nat} (he : e < 2 ^ 32) : e < 2 ^ n ↔ ∀ i, n ≤ i → i < 32 → e.testBit i = false := by
  constructor
  · intro h i hi _
    exact Nat.testBit_lt_two_pow (Nat.lt_of_lt_of_le h (two_pow_le hi))
  · intro h
    apply Nat.lt_pow_two_of_testBit
    intro i hi
    by_cases h32 : i < 32
    · exact h i hi h32
    · exact testBit_big he (by omega)
theorem andn_below {e n : Nat} (hn : n ≤ 32) (he : e < 2 ^ 32) : andn e (2 ^ n - 1) = 0 ↔ e < 2 ^ n := by
  have h2 := pow2_pos n
  have h1 : 2 ^ n ≤ 2 ^ 32 := two_pow_le hn
  rw [lt_pow_iff he]
  constructor
  · intro h i hi h32
    have ht := testBit_andn (i := i) (show 2 ^ n - 1 < 2 ^ 32 by omega) he
    rw [h, Nat.testBit_two_pow_sub_one] at ht
    simpa [show ¬ i < n by omega] using ht.symm
  · intro h
    apply Nat.eq_of_testBit_eq
    intro i
    rw [testBit_andn (by omega) he, Nat.testBit_two_pow_sub_one]
    by_cases hi : i < n
    · simp [hi]
    · by_cases h32 : i < 32
      · simp [h i (by omega) h32]
      · simp [testBit_big he (show 32 ≤ i by omega)]
theorem check_test {e n : Nat} (hn : n ≤ 32) (he : e < 2 ^ 32) : (bits .andNot .u32 (e : Int) ((2 ^ n - 1 : Nat) : Int) != 0) = !decide (e < 2 ^ n) := by
  have h2 := pow2_pos n
  have h1 : 2 ^ n ≤ 2 ^ 32 := two_pow_le hn
  rw [bits_andNot e _ he (by omega)]
  by_cases h : e < 2 ^ n
  · rw [(andn_below hn he).2 h]; simp [h]
  · have : andn e (2 ^ n - 1) ≠ 0 := fun hh => h ((andn_below hn he).1 hh)
    simp [h]; omega

/-- The first k bits of an edge whose vertex p[i] is renamed to i. -/
def renTo (p : List Int) (e : Nat) : Nat → Nat
  | 0 => 0
  | k + 1 => renTo p e k + if e.testBit (inth p k).toNat then 2 ^ k else 0
def ren (p : List Int) (e : Nat) : Nat := renTo p e p.length
theorem renTo_lt (p : List Int) (e k : Nat) : renTo p e k < 2 ^ k := by
  induction k with
  | zero => simp [renTo]
  | succ k ih => rw [renTo, Nat.pow_succ]; split <;> omega
theorem renTo_or (p : List Int) (e k : Nat) : renTo p e (k + 1) = renTo p e k ||| if e.testBit (inth p k).toNat then 2 ^ k else 0 := by
  rw [renTo]
  split
  · rw [Nat.or_comm, nat_join k _ _ (Nat.mod_self _) (renTo_lt p e k), Nat.add_comm]
  · simp
theorem testBit_renTo (p : List Int) (e k i : Nat) : (renTo p e k).testBit i = (decide (i < k) && e.testBit (inth p i).toNat) := by
  induction k with
  | zero => simp [renTo]
  | succ k ih =>
    rw [renTo_or, Nat.testBit_or, ih]
    by_cases hik : i = k
    · subst hik
      split
      · rename_i h; simp [Nat.testBit_two_pow_self, h]
      · rename_i h; simp [h]
    · have h2 : (if e.testBit (inth p k).toNat = true then 2 ^ k else 0).testBit i = false := by
        split
        · rw [Nat.testBit_two_pow]; simp; omega
        · simp
      rw [h2, Bool.or_false]
      congr 1
      rw [Bool.eq_iff_iff]
      simp
      omega

theorem and_one_bit (e v : Nat) : (e / 2 ^ v) &&& 1 = if e.testBit v then 1 else 0 := by
  rw [nat_mask1, Nat.testBit_eq_decide_div_mod_eq]
  by_cases h : e / 2 ^ v % 2 = 1
  · simp [h]
  · simp [h]; omega
theorem bits_and_one (e v : Nat) (he : e < 2 ^ 32) : bits .and .u32 ((e : Int) / 2 ^ v) 1 = ((if e.testBit v then 1 else 0 : Nat) : Int) := by
  rw [← cast_pow2, show ((e : Int) / ((2 ^ v : Nat) : Int)) = ((e / 2 ^ v : Nat) : Int) from by simp, show (1 : Int) = ((1 : Nat) : Int) from rfl,
    bits_and _ _ (Nat.lt_of_le_of_lt (Nat.div_le_self _ _) he) (by omega), and_one_bit]
theorem shl_bit (b : Bool) (j : Nat) (hj : j < 32) : ((if b then 1 else 0 : Nat) : Int) * 2 ^ min j 32 % 4294967296 = ((if b then 2 ^ j else 0 : Nat) : Int) := by
  rw [Nat.min_eq_left (by omega), ← cast_pow2]
  have h1 : 2 ^ j < 2 ^ 32 := Nat.pow_lt_pow_right (by omega) hj
  cases b
  · simp
  · simp only [if_true]
    generalize 2 ^ j = x at *
    omega
theorem perm_step (x e v j : Nat) (hx : x < 2 ^ 32) (he : e < 2 ^ 32) (hj : j < 32) :
    bits .or .u32 (x : Int) (bits .and .u32 ((e : Int) / 2 ^ v) 1 * 2 ^ min j 32 % 4294967296) = ((x ||| if e.testBit v then 2 ^ j else 0 : Nat) : Int) := by
  have h1 : 2 ^ j < 2 ^ 32 := Nat.pow_lt_pow_right (by omega) hj
  rw [bits_and_one e v he, shl_bit _ j hj, bits_or _ _ hx (by split <;> omega)]

/-- The neighbors of v: all that share an edge with it, without v. -/
def adj (es : List Nat) (v : Nat) : Nat := es.foldl (fun a e => if e.testBit v then a ||| andn e (2 ^ v) else a) 0
theorem adj_snoc (l : List Nat) (e v : Nat) : adj (l ++ [e]) v = if e.testBit v then adj l v ||| andn e (2 ^ v) else adj l v := by
  simp [adj, List.foldl_append]
theorem adj_take {es : List Nat} {k : Nat} (h : k < es.length) (v : Nat) : adj (es.take (k + 1)) v = if (nth es k).testBit v then adj (es.take k) v ||| andn (nth es k) (2 ^ v) else adj (es.take k) v := by
  rw [List.take_succ_eq_append_getElem h, adj_snoc, nth_eq h]
theorem adj_lt {es : List Nat} (h : ∀ e ∈ es, e < 2 ^ 32) (v : Nat) : adj es v < 2 ^ 32 := by
  have : ∀ (l : List Nat) (a : Nat), (∀ e ∈ l, e < 2 ^ 32) → a < 2 ^ 32 → l.foldl (fun a e => if e.testBit v then a ||| andn e (2 ^ v) else a) a < 2 ^ 32 := by
    intro l
    induction l with
    | nil => intro a _ ha; exact ha
    | cons e l ih =>
      intro a hl ha
      simp only [List.foldl_cons]
      refine ih _ (fun x hx => hl x (by simp [hx])) ?_
      split
      · exact Nat.or_lt_two_pow ha (andn_lt (hl e (by simp)))
      · exact ha
  exact this es 0 h (by omega)
theorem pow2_lt32 {v : Nat} (hv : v < 32) : 2 ^ v < 2 ^ 32 := Nat.pow_lt_pow_right (by omega) hv
theorem testBit_adj {es : List Nat} (h : ∀ e ∈ es, e < 2 ^ 32) {v : Nat} (hv : v < 32) (u : Nat) :
    (adj es v).testBit u = (decide (u ≠ v) && es.any fun e => e.testBit v && e.testBit u) := by
  have : ∀ (l : List Nat) (a : Nat), (∀ e ∈ l, e < 2 ^ 32) →
      (l.foldl (fun a e => if e.testBit v then a ||| andn e (2 ^ v) else a) a).testBit u = (a.testBit u || (decide (u ≠ v) && l.any fun e => e.testBit v && e.testBit u)) := by
    intro l
    induction l with
    | nil => intro a _; simp
    | cons e l ih =>
      intro a hl
      simp only [List.foldl_cons, List.any_cons]
      rw [ih _ (fun x hx => hl x (by simp [hx]))]
      split
      · rename_i h1
        rw [Nat.testBit_or, testBit_andn (pow2_lt32 hv) (hl e (by simp)), Nat.testBit_two_pow, h1]
        by_cases huv : u = v
        · subst huv; simp
        · simp [huv, Ne.symm huv, Bool.or_assoc]
      · rename_i h1
        simp [h1]
  rw [adj, this es 0 h]
  simp
theorem shl_one (v : Nat) (hv : v < 32) : (1 : Int) * 2 ^ min v 32 % 4294967296 = ((2 ^ v : Nat) : Int) := by
  have := shl_bit true v hv
  simpa using this
theorem shl_mod (v : Nat) (hv : v < 32) : (2 : Int) ^ v % 4294967296 = ((2 ^ v : Nat) : Int) := by
  rw [← cast_pow2]
  have h1 : 2 ^ v < 2 ^ 32 := Nat.pow_lt_pow_right (by omega) hv
  generalize 2 ^ v = x at *
  omega
theorem adj_step (x e v : Nat) (hx : x < 2 ^ 32) (he : e < 2 ^ 32) (hv : v < 32) : bits .or .u32 (x : Int) (bits .andNot .u32 (e : Int) ((2 : Int) ^ v % 4294967296)) = ((x ||| andn e (2 ^ v) : Nat) : Int) := by
  rw [shl_mod v hv, bits_andNot _ _ he (pow2_lt32 hv), bits_or _ _ hx (andn_lt he)]
theorem bit_test (e v : Nat) (he : e < 2 ^ 32) : (bits .and .u32 ((e : Int) / 2 ^ v) 1 == 1) = e.testBit v := by
  rw [bits_and_one e v he]
  by_cases h : e.testBit v <;> simp [h]

/-- The disruptive trios from (a, b, c) on, in lexicographic order, of the free vertices below m. -/
def restC (es : List Nat) (m a b c : Nat) : List (Nat × Nat × Nat) := ((List.range' c (m - c)).filter fun c => (adj es a &&& adj es b).testBit c).map fun c => (a, b, c)
def restB (es : List Nat) (m a b : Nat) : List (Nat × Nat × Nat) := (List.range' b (m - b)).flatMap fun b => if (adj es a).testBit b then [] else restC es m a b (b + 1)
def restA (es : List Nat) (m a : Nat) : List (Nat × Nat × Nat) := (List.range' a (m - a)).flatMap fun a => restB es m a (a + 1)
def trios (es : List Nat) (m : Nat) : List (Nat × Nat × Nat) := restA es m 0
theorem range'_step {c m : Nat} (h : c < m) : List.range' c (m - c) = c :: List.range' (c + 1) (m - (c + 1)) := by
  rw [show m - c = (m - (c + 1)) + 1 from by omega, List.range'_succ]
theorem range'_end {c m : Nat} (h : m ≤ c) : List.range' c (m - c) = [] := by
  rw [show m - c = 0 from by omega]; rfl
theorem restC_step {es : List Nat} {m a b c : Nat} (h : c < m) : restC es m a b c = if (adj es a &&& adj es b).testBit c then (a, b, c) :: restC es m a b (c + 1) else restC es m a b (c + 1) := by
  unfold restC
  rw [range'_step h, List.filter_cons]
  split <;> simp
theorem restC_end {es : List Nat} {m a b c : Nat} (h : m ≤ c) : restC es m a b c = [] := by
  unfold restC; rw [range'_end h]; rfl
theorem restB_step {es : List Nat} {m a b : Nat} (h : b < m) : restB es m a b = (if (adj es a).testBit b then [] else restC es m a b (b + 1)) ++ restB es m a (b + 1) := by
  unfold restB; rw [range'_step h, List.flatMap_cons]
theorem restB_end {es : List Nat} {m a b : Nat} (h : m ≤ b) : restB es m a b = [] := by
  unfold restB; rw [range'_end h]; rfl
theorem restA_step {es : List Nat} {m a : Nat} (h : a < m) : restA es m a = restB es m a (a + 1) ++ restA es m (a + 1) := by
  unfold restA; rw [range'_step h, List.flatMap_cons]
theorem restA_end {es : List Nat} {m a : Nat} (h : m ≤ a) : restA es m a = [] := by
  unfold restA; rw [range'_end h]; rfl

end Go.Proofs.YtjofdlafblpclaaDoor
