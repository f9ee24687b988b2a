/-
Plain facts on numbers, bits and lists that the walks use (no program in sight).
Words for memory: a slice that reads as a list, a block that is known whole, appends onto a row of the call's own, frames (the guide's own small lemmas, laid for this seat).
Arguments of a law, opened to what the walks ask.
DERIVED: THE SHELF's CONTRACTS AT THIS DUMP, IN PLAIN WORDS (tools/lay-plain.mjs out of 'TryShelf.lean', which tools/lay-shelf.mjs wrote): THE SAME DECLARATIONS UNDER THE SAME NAMES: 'import', 'namespace', 'open', 'def', 'theorem' AND NOTHING ELSE: no command of the shelf's: FOR A HAND-IN. Each laying: the table of numbers ('.._ren') and one theorem, a field a fact of the dump's own or the kernel's comparison; each contract: ONE APPLICATION.
(*strings.Builder).WriteString at this dump: the shelf's contract, laid by one application (the kit's printer left this one out).
Rows of the call's own: small laws (no numbers of a seat).
Plain facts on numbers as lists of digits, least significant first (no program in sight).
-/
import Derived.WalkKit
import Derived.Laws.BitsAllLaws
import Derived.Test.YtamcibmjpmibdaaRows
import Derived.WalkSpells
import Derived.WalkLawsBesides
import Derived.Lib.Hide
import Derived.Below
import Derived.Laws.OwnMore
import Derived.Deep.AppendLies
import Derived.Deep.Draws
import Derived.Laws.Rows
import Derived.Maps.AppendAt
import Derived.RegionTactic
import Derived.OwnWalk
import Derived.Deep.OwnRows
import Derived.Laws.AppendOwn
import Derived.Laws.MakeOwn
import Derived.Laws.Entries
import Derived.ChangeSame
import Derived.Deep.QuietTactic
import Derived.BigQuiet
import Derived.Deep.RegionHeld3
import Derived.Deep.DrawnRows
import Derived.Deep.DeepCutAuto
import Derived.Deep.MidRow
import Derived.ProofKit
import Derived.OpenShut
import Derived.ShutString
import Derived.ChangeOld
import Derived.Lib.SmallJoins
import Derived.Shelf.Strings.Builder1
import Derived.Shelf.Strings.Builder2
import Derived.Shelf.Small.Bits
import Derived.Ground.Names2Prog
import Derived.Shelf.Slices.SearchI
import Derived.Test.YtamcibmjpmibdaaProg
namespace Go.Proofs.Ytamcibmjpmibdaa

theorem two_pow_le {n m : Nat} (h : n ≤ m) : (2:Nat) ^ n ≤ 2 ^ m := Nat.pow_le_pow_right (by omega) h
theorem cast_pow2 (n : Nat) : ((2 ^ n : Nat) : Int) = (2:Int) ^ n := by simp
theorem pow2_pos (n : Nat) : 0 < 2 ^ n := Nat.pos_of_ne_zero (by simp)
theorem below_val (n : Nat) (hn : n ≤ 32) : (IntKind.u64.wrap (IntKind.u64.wrap ((2:Int) ^ n) - 1)) % 4294967296 = ((2 ^ n - 1 : Nat) : Int) := by
  have h1 : 2 ^ n ≤ 2 ^ 32 := two_pow_le hn
  have h2 := pow2_pos n
  rw [← cast_pow2]
  generalize hx : 2 ^ n = x at *
  simp only [IntKind.wrap, IntKind.bits, IntKind.signed]
  omega
theorem bit_of_div (s v : Nat) : (((s : Int) / 2 ^ v).tmod 2 == 1) = s.testBit v := by
  rw [← cast_pow2, show ((s : Int) / ((2 ^ v : Nat) : Int)) = ((s / 2 ^ v : Nat) : Int) from by simp]
  rw [Nat.testBit_eq_decide_div_mod_eq]
  generalize s / 2 ^ v = t
  rw [Int.tmod_eq_emod_of_nonneg (by omega)]
  rw [Bool.eq_iff_iff]
  simp
  omega

theorem testBit_big {s v : Nat} (hs : s < 2 ^ 32) (hv : 32 ≤ v) : s.testBit v = false :=
  Nat.testBit_lt_two_pow (Nat.lt_of_lt_of_le hs (two_pow_le hv))
theorem bit_of_min (s v : Nat) (hs : s < 2 ^ 32) : (((s : Int) / 2 ^ (min v 32)).tmod 2 == 1) = s.testBit v := by
  rw [bit_of_div]
  rcases Nat.le_total v 32 with h | h
  · rw [Nat.min_eq_left h]
  · rw [Nat.min_eq_right h, testBit_big hs h, testBit_big hs (Nat.le_refl _)]
/-- The error number of a graph. -/
def checkCode (n : Int) (es : List Nat) : Int :=
  if n < 0 ∨ 32 < n then 3 else if 64 < es.length then 12 else if es.all (fun e => decide (e < 2 ^ n.toNat)) then 0 else 1
theorem checkCode_zero {n : Int} {es : List Nat} (h : checkCode n es = 0) : 0 ≤ n ∧ n ≤ 32 ∧ es.length ≤ 64 ∧ ∀ e ∈ es, e < 2 ^ n.toNat := by
  unfold checkCode at h
  split at h
  · omega
  · split at h
    · omega
    · split at h
      · rename_i h3
        refine ⟨by omega, by omega, by omega, fun e he => ?_⟩
        simpa using List.all_eq_true.1 h3 e he
      · omega

/-- Element k of a list of numbers (0 outside). -/
def nth (es : List Nat) (k : Nat) : Nat := es.getD k 0
def inth (es : List Int) (k : Nat) : Int := es.getD k 0
theorem nth_eq {es : List Nat} {k : Nat} (h : k < es.length) : nth es k = es[k] := by simp [nth, List.getD, h]
theorem inth_eq {es : List Int} {k : Nat} (h : k < es.length) : inth es k = es[k] := by simp [inth, List.getD, h]
theorem nth_mem {es : List Nat} {k : Nat} (h : k < es.length) : nth es k ∈ es := by rw [nth_eq h]; exact List.getElem_mem h
theorem inth_mem {es : List Int} {k : Nat} (h : k < es.length) : inth es k ∈ es := by rw [inth_eq h]; exact List.getElem_mem h
def U32 (es : List Nat) : List Value := es.map fun (e : Nat) => Value.int .u32 (e : Int)
theorem U32_length (es : List Nat) : (U32 es).length = es.length := by simp [U32]
theorem U32_get {es : List Nat} {k : Nat} {u : Value} (h : (U32 es)[k]? = some u) : u = .int .u32 ((nth es k : Nat) : Int) := by
  simp only [U32, List.getElem?_map, Option.map_eq_some_iff] at h
  obtain ⟨e, he, rfl⟩ := h
  simp [nth, List.getD, he]
def I64 (xs : List Int) : List Value := xs.map fun e => Value.int .i64 e
theorem I64_length (es : List Int) : (I64 es).length = es.length := by simp [I64]
theorem I64_get {es : List Int} {k : Nat} {u : Value} (h : (I64 es)[k]? = some u) : u = .int .i64 (inth es k) := by
  simp only [I64, List.getElem?_map, Option.map_eq_some_iff] at h
  obtain ⟨e, he, rfl⟩ := h
  simp [inth, List.getD, he]
theorem all_take_succ (p : Nat → Bool) (l : List Nat) (k : Nat) (h : k < l.length) : (l.take (k + 1)).all p = ((l.take k).all p && p (nth l k)) := by
  rw [List.take_succ_eq_append_getElem h, List.all_append, nth_eq h]; simp

/-- a without the elements of b (32 bits). -/
def andn (a b : Nat) : Nat := a &&& (4294967295 - b)
theorem testBit_andn {a b i : Nat} (hb : b < 2 ^ 32) (ha : a < 2 ^ 32) : (andn a b).testBit i = (a.testBit i && !b.testBit i) := by
  unfold andn
  rw [Nat.testBit_and, show 4294967295 - b = 2 ^ 32 - (b + 1) from by omega, Nat.testBit_two_pow_sub_succ hb]
  by_cases h : i < 32
  · simp [h]
  · rw [testBit_big ha (by omega)]; simp
theorem andn_lt {a b : Nat} (ha : a < 2 ^ 32) : andn a b < 2 ^ 32 := Nat.lt_of_le_of_lt Nat.and_le_left ha
theorem bits_andNot (a b : Nat) (ha : a < 2 ^ 32) (hb : b < 2 ^ 32) : bits .andNot .u32 (a : Int) (b : Int) = ((andn a b : Nat) : Int) := u32_andNot_nat a b ha hb
theorem bits_and (a b : Nat) (ha : a < 2 ^ 32) (hb : b < 2 ^ 32) : bits .and .u32 (a : Int) (b : Int) = ((a &&& b : Nat) : Int) := u32_and_nat a b ha hb
theorem bits_or (a b : Nat) (ha : a < 2 ^ 32) (hb : b < 2 ^ 32) : bits .or .u32 (a : Int) (b : Int) = ((a ||| b : Nat) : Int) := u32_or_nat a b ha hb
theorem lt_pow_iff {e n : Nat} (he : e < 2 ^ 32) : e < 2 ^ n ↔ ∀ i, n ≤ i → i < 32 → e.testBit i = false := by
  constructor
  · intro h i hi _
    exact Nat.testBit_lt_two_pow (Nat.lt_of_lt_of_le h (two_pow_le hi))
  · intro h
    apply Nat.lt_pow_two_of_testBit
    intro i hi
    by_cases h32 : i < 32
    · exact h i hi h32
    · exact testBit_big he (by omega)
theorem andn_below {e n : Nat} (hn : n ≤ 32) (he : e < 2 ^ 32) : andn e (2 ^ n - 1) = 0 ↔ e < 2 ^ n := by
  have h2 := pow2_pos n
  have h1 : 2 ^ n ≤ 2 ^ 32 := two_pow_le hn
  rw [lt_pow_iff he]
  constructor
  · intro h i hi h32
    have ht := testBit_andn (i := i) (show 2 ^ n - 1 < 2 ^ 32 by omega) he
    rw [h, Nat.testBit_two_pow_sub_one] at ht
    simpa [show ¬ i < n by omega] using ht.symm
  · intro h
    apply Nat.eq_of_testBit_eq
    intro i
    rw [testBit_andn (by omega) he, Nat.testBit_two_pow_sub_one]
    by_cases hi : i < n
    · simp [hi]
    · by_cases h32 : i < 32
      · simp [h i (by omega) h32]
      · simp [testBit_big he (show 32 ≤ i by omega)]
theorem check_test {e n : Nat} (hn : n ≤ 32) (he : e < 2 ^ 32) : (bits .andNot .u32 (e : Int) ((2 ^ n - 1 : Nat) : Int) != 0) = !decide (e < 2 ^ n) := by
  have h2 := pow2_pos n
  have h1 : 2 ^ n ≤ 2 ^ 32 := two_pow_le hn
  rw [bits_andNot e _ he (by omega)]
  by_cases h : e < 2 ^ n
  · rw [(andn_below hn he).2 h]; simp [h]
  · have : andn e (2 ^ n - 1) ≠ 0 := fun hh => h ((andn_below hn he).1 hh)
    simp [h]; omega

/-- The first k bits of an edge whose vertex p[i] is renamed to i. -/
def renTo (p : List Int) (e : Nat) : Nat → Nat
  | 0 => 0
  | k + 1 => renTo p e k + if e.testBit (inth p k).toNat then 2 ^ k else 0
def ren (p : List Int) (e : Nat) : Nat := renTo p e p.length
theorem renTo_lt (p : List Int) (e k : Nat) : renTo p e k < 2 ^ k := by
  induction k with
  | zero => simp [renTo]
  | succ k ih => rw [renTo, Nat.pow_succ]; split <;> omega
theorem renTo_or (p : List Int) (e k : Nat) : renTo p e (k + 1) = renTo p e k ||| if e.testBit (inth p k).toNat then 2 ^ k else 0 := by
  rw [renTo]
  split
  · rw [Nat.or_comm, nat_join k _ _ (Nat.mod_self _) (renTo_lt p e k), Nat.add_comm]
  · simp
theorem testBit_renTo (p : List Int) (e k i : Nat) : (renTo p e k).testBit i = (decide (i < k) && e.testBit (inth p i).toNat) := by
  induction k with
  | zero => simp [renTo]
  | succ k ih =>
    rw [renTo_or, Nat.testBit_or, ih]
    by_cases hik : i = k
    · subst hik
      split
      · rename_i h; simp [Nat.testBit_two_pow_self, h]
      · rename_i h; simp [h]
    · have h2 : (if e.testBit (inth p k).toNat = true then 2 ^ k else 0).testBit i = false := by
        split
        · rw [Nat.testBit_two_pow]; simp; omega
        · simp
      rw [h2, Bool.or_false]
      congr 1
      rw [Bool.eq_iff_iff]
      simp
      omega

theorem and_one_bit (e v : Nat) : (e / 2 ^ v) &&& 1 = if e.testBit v then 1 else 0 := by
  rw [nat_mask1, Nat.testBit_eq_decide_div_mod_eq]
  by_cases h : e / 2 ^ v % 2 = 1
  · simp [h]
  · simp [h]; omega
theorem bits_and_one (e v : Nat) (he : e < 2 ^ 32) : bits .and .u32 ((e : Int) / 2 ^ v) 1 = ((if e.testBit v then 1 else 0 : Nat) : Int) := by
  rw [← cast_pow2, show ((e : Int) / ((2 ^ v : Nat) : Int)) = ((e / 2 ^ v : Nat) : Int) from by simp, show (1 : Int) = ((1 : Nat) : Int) from rfl,
    bits_and _ _ (Nat.lt_of_le_of_lt (Nat.div_le_self _ _) he) (by omega), and_one_bit]
theorem shl_bit (b : Bool) (j : Nat) (hj : j < 32) : ((if b then 1 else 0 : Nat) : Int) * 2 ^ min j 32 % 4294967296 = ((if b then 2 ^ j else 0 : Nat) : Int) := by
  rw [Nat.min_eq_left (by omega), ← cast_pow2]
  have h1 : 2 ^ j < 2 ^ 32 := Nat.pow_lt_pow_right (by omega) hj
  cases b
  · simp
  · simp only [if_true]
    generalize 2 ^ j = x at *
    omega
theorem perm_step (x e v j : Nat) (hx : x < 2 ^ 32) (he : e < 2 ^ 32) (hj : j < 32) :
    bits .or .u32 (x : Int) (bits .and .u32 ((e : Int) / 2 ^ v) 1 * 2 ^ min j 32 % 4294967296) = ((x ||| if e.testBit v then 2 ^ j else 0 : Nat) : Int) := by
  have h1 : 2 ^ j < 2 ^ 32 := Nat.pow_lt_pow_right (by omega) hj
  rw [bits_and_one e v he, shl_bit _ j hj, bits_or _ _ hx (by split <;> omega)]

/-- The neighbors of v: all that share an edge with it, without v. -/
def adj (es : List Nat) (v : Nat) : Nat := es.foldl (fun a e => if e.testBit v then a ||| andn e (2 ^ v) else a) 0
theorem adj_snoc (l : List Nat) (e v : Nat) : adj (l ++ [e]) v = if e.testBit v then adj l v ||| andn e (2 ^ v) else adj l v := by
  simp [adj, List.foldl_append]
theorem adj_take {es : List Nat} {k : Nat} (h : k < es.length) (v : Nat) : adj (es.take (k + 1)) v = if (nth es k).testBit v then adj (es.take k) v ||| andn (nth es k) (2 ^ v) else adj (es.take k) v := by
  rw [List.take_succ_eq_append_getElem h, adj_snoc, nth_eq h]
theorem adj_lt {es : List Nat} (h : ∀ e ∈ es, e < 2 ^ 32) (v : Nat) : adj es v < 2 ^ 32 := by
  have : ∀ (l : List Nat) (a : Nat), (∀ e ∈ l, e < 2 ^ 32) → a < 2 ^ 32 → l.foldl (fun a e => if e.testBit v then a ||| andn e (2 ^ v) else a) a < 2 ^ 32 := by
    intro l
    induction l with
    | nil => intro a _ ha; exact ha
    | cons e l ih =>
      intro a hl ha
      simp only [List.foldl_cons]
      refine ih _ (fun x hx => hl x (by simp [hx])) ?_
      split
      · exact Nat.or_lt_two_pow ha (andn_lt (hl e (by simp)))
      · exact ha
  exact this es 0 h (by omega)
theorem pow2_lt32 {v : Nat} (hv : v < 32) : 2 ^ v < 2 ^ 32 := Nat.pow_lt_pow_right (by omega) hv
theorem testBit_adj {es : List Nat} (h : ∀ e ∈ es, e < 2 ^ 32) {v : Nat} (hv : v < 32) (u : Nat) :
    (adj es v).testBit u = (decide (u ≠ v) && es.any fun e => e.testBit v && e.testBit u) := by
  have : ∀ (l : List Nat) (a : Nat), (∀ e ∈ l, e < 2 ^ 32) →
      (l.foldl (fun a e => if e.testBit v then a ||| andn e (2 ^ v) else a) a).testBit u = (a.testBit u || (decide (u ≠ v) && l.any fun e => e.testBit v && e.testBit u)) := by
    intro l
    induction l with
    | nil => intro a _; simp
    | cons e l ih =>
      intro a hl
      simp only [List.foldl_cons, List.any_cons]
      rw [ih _ (fun x hx => hl x (by simp [hx]))]
      split
      · rename_i h1
        rw [Nat.testBit_or, testBit_andn (pow2_lt32 hv) (hl e (by simp)), Nat.testBit_two_pow, h1]
        by_cases huv : u = v
        · subst huv; simp
        · simp [huv, Ne.symm huv, Bool.or_assoc]
      · rename_i h1
        simp [h1]
  rw [adj, this es 0 h]
  simp
theorem shl_one (v : Nat) (hv : v < 32) : (1 : Int) * 2 ^ min v 32 % 4294967296 = ((2 ^ v : Nat) : Int) := by
  have := shl_bit true v hv
  simpa using this
theorem shl_mod (v : Nat) (hv : v < 32) : (2 : Int) ^ v % 4294967296 = ((2 ^ v : Nat) : Int) := by
  rw [← cast_pow2]
  have h1 : 2 ^ v < 2 ^ 32 := Nat.pow_lt_pow_right (by omega) hv
  generalize 2 ^ v = x at *
  omega
theorem adj_step (x e v : Nat) (hx : x < 2 ^ 32) (he : e < 2 ^ 32) (hv : v < 32) : bits .or .u32 (x : Int) (bits .andNot .u32 (e : Int) ((2 : Int) ^ v % 4294967296)) = ((x ||| andn e (2 ^ v) : Nat) : Int) := by
  rw [shl_mod v hv, bits_andNot _ _ he (pow2_lt32 hv), bits_or _ _ hx (andn_lt he)]
theorem bit_test (e v : Nat) (he : e < 2 ^ 32) : (bits .and .u32 ((e : Int) / 2 ^ v) 1 == 1) = e.testBit v := by
  rw [bits_and_one e v he]
  by_cases h : e.testBit v <;> simp [h]

/-- The disruptive trios from (a, b, c) on, in lexicographic order, of the free vertices below m. -/
def restC (es : List Nat) (m a b c : Nat) : List (Nat × Nat × Nat) := ((List.range' c (m - c)).filter fun c => (adj es a &&& adj es b).testBit c).map fun c => (a, b, c)
def restB (es : List Nat) (m a b : Nat) : List (Nat × Nat × Nat) := (List.range' b (m - b)).flatMap fun b => if (adj es a).testBit b then [] else restC es m a b (b + 1)
def restA (es : List Nat) (m a : Nat) : List (Nat × Nat × Nat) := (List.range' a (m - a)).flatMap fun a => restB es m a (a + 1)
def trios (es : List Nat) (m : Nat) : List (Nat × Nat × Nat) := restA es m 0
theorem range'_step {c m : Nat} (h : c < m) : List.range' c (m - c) = c :: List.range' (c + 1) (m - (c + 1)) := by
  rw [show m - c = (m - (c + 1)) + 1 from by omega, List.range'_succ]
theorem range'_end {c m : Nat} (h : m ≤ c) : List.range' c (m - c) = [] := by
  rw [show m - c = 0 from by omega]; rfl
theorem restC_step {es : List Nat} {m a b c : Nat} (h : c < m) : restC es m a b c = if (adj es a &&& adj es b).testBit c then (a, b, c) :: restC es m a b (c + 1) else restC es m a b (c + 1) := by
  unfold restC
  rw [range'_step h, List.filter_cons]
  split <;> simp
theorem restC_end {es : List Nat} {m a b c : Nat} (h : m ≤ c) : restC es m a b c = [] := by
  unfold restC; rw [range'_end h]; rfl
theorem restB_step {es : List Nat} {m a b : Nat} (h : b < m) : restB es m a b = (if (adj es a).testBit b then [] else restC es m a b (b + 1)) ++ restB es m a (b + 1) := by
  unfold restB; rw [range'_step h, List.flatMap_cons]
theorem restB_end {es : List Nat} {m a b : Nat} (h : m ≤ b) : restB es m a b = [] := by
  unfold restB; rw [range'_end h]; rfl
theorem restA_step {es : List Nat} {m a : Nat} (h : a < m) : restA es m a = restB es m a (a + 1) ++ restA es m (a + 1) := by
  unfold restA; rw [range'_step h, List.flatMap_cons]
theorem restA_end {es : List Nat} {m a : Nat} (h : m ≤ a) : restA es m a = [] := by
  unfold restA; rw [range'_end h]; rfl

end Go.Proofs.Ytamcibmjpmibdaa
namespace Go.Proofs.Ytamcibmjpmibdaa
open Go.RowKit Go.WideShapes Go.ChangeShapes

theorem block_of_add (a : Addr) (n : Nat) : (a.add n).block = a.block := by unfold Addr.add; split <;> rfl
theorem add_of_add (a : Addr) (i j : Nat) : (a.add i).add j = a.add (i + j) := by
  unfold Addr.add
  by_cases hi : i = 0 <;> by_cases hj : j = 0 <;> simp [hi, hj, Nat.add_assoc]

def Reads (w : World) (B size : Nat) (A : Option Addr) (n : Nat) (xs : List Value) : Prop :=
  xs.length = n * size ∧ (0 < n → ∃ ad, A = some ad ∧ ad.block < B ∧ ∀ j u, xs[j]? = some u → w.cell? (ad.add j) = some u)

section
variable {w w' : World} {B B' size n : Nat} {A : Option Addr} {xs : List Value}
theorem Reads.none_ : Reads w B size A 0 [] := ⟨by simp, fun h => absurd h (by omega)⟩
theorem Reads.at_ {k : Nat} (h : Reads w B 1 A n xs) (hk : k < n) : ∃ ad u, A = some ad ∧ ad.block < B ∧ xs[k]? = some u ∧ w.cell? (ad.add k) = some u := by
  obtain ⟨ad, e, hb, hc⟩ := h.2 (by omega)
  have hl : k < xs.length := by have := h.1; omega
  exact ⟨ad, xs[k], e, hb, List.getElem?_eq_getElem hl, hc k _ (List.getElem?_eq_getElem hl)⟩
theorem Reads.keep (h : Reads w B size A n xs) (hk : ∀ p : Addr, p.block < B → w'.cell? p = w.cell? p) : Reads w' B size A n xs :=
  ⟨h.1, fun hn => by
    obtain ⟨ad, e, hb, hc⟩ := h.2 hn
    exact ⟨ad, e, hb, fun j u hu => (hk _ (by rw [block_of_add]; exact hb)).trans (hc j u hu)⟩⟩
theorem Reads.more (h : Reads w B size A n xs) (hB : B ≤ B') : Reads w B' size A n xs :=
  ⟨h.1, fun hn => by
    obtain ⟨ad, e, hb, hc⟩ := h.2 hn
    exact ⟨ad, e, by omega, hc⟩⟩
theorem Reads.below (h : Reads w B size A n xs) (hb : Below B w w') : Reads w' B size A n xs := h.keep fun _ hp => hb.cell hp
theorem Reads.drew (h : Reads w B size A n xs) : Reads w.drew B size A n xs := h
theorem Reads.drewN (h : Reads w B size A n xs) (k : Nat) : Reads (w.drewN k) B size A n xs := h
theorem Reads.alloc (h : Reads w B size A n xs) (hB : B ≤ w.heap.size) (o : Obj) : Reads (w.alloc o) B size A n xs := h.keep fun p hp => World.cell?_alloc_lt w o p (by omega)
theorem Reads.setCell (h : Reads w B size A n xs) {p : Addr} (hB : B ≤ p.block) (u : Value) : Reads (w.setCell p u) B size A n xs :=
  h.keep fun q hq => World.cell?_setCell_other w p q u (fun e => by subst e; omega)
theorem Reads.grown (h : Reads w B size A n xs) {row : Option Nat} (hg : w.grownBy w' row) (hB : B ≤ w.heap.size) (hr : ∀ g, row = some g → B ≤ g) : Reads w' B size A n xs :=
  h.keep fun p hp => World.cell?_of_block (hg.block p.block (by omega) (fun e => by have := hr _ e.symm; omega))
theorem Reads.cut (h : Reads w B size A n xs) {k cap : Nat} (hk : k ≤ n) (hc : n ≤ cap) :
    Reads w B size (if cap = k then A else A.map (·.add (k * size))) (n - k) (xs.drop (k * size)) := by
  refine ⟨by rw [List.length_drop, h.1, Nat.sub_mul], fun hn => ?_⟩
  obtain ⟨ad, rfl, hb, hcell⟩ := h.2 (by omega)
  rw [if_neg (by omega)]
  refine ⟨ad.add (k * size), rfl, by rw [block_of_add]; exact hb, fun j u hu => ?_⟩
  rw [add_of_add]
  exact hcell _ u (by rw [← hu, List.getElem?_drop])
theorem Reads.of_own {base : Nat} {e : TypeId} {c : Nat} (h : w.ownsRow base e size (.slice A n c) n xs) : Reads w w.heap.size size A n xs := by
  refine ⟨h.1, fun hn => ?_⟩
  obtain ⟨g, cap, hv, _, hlt⟩ := h.form hn
  have hA : A = some ⟨g, 0, none⟩ := by injection hv
  subst hA
  exact ⟨_, rfl, hlt, h.cells (g := g) rfl⟩
end

def Blk (w : World) (g : Nat) (t : TypeId) (cs : Array Value) : Prop := w.heap[g]? = some (.cells cs t (0, 0))

section
variable {w w' : World} {g : Nat} {t : TypeId} {cs : Array Value}
theorem Blk.lt (h : Blk w g t cs) : g < w.heap.size := by
  rcases Nat.lt_or_ge g w.heap.size with hlt | hge
  · exact hlt
  · unfold Blk at h; rw [Array.getElem?_eq_none hge] at h; cases h
theorem Blk.lt' {w : World} {g : Nat} {o : Obj} (h : w.heap[g]? = some o) : g < w.heap.size := (Array.getElem?_eq_some_iff.1 h).1
theorem Blk.cell (h : Blk w g t cs) (i : Nat) : w.cell? ⟨g, i, none⟩ = cs[i]? := cell_of_row w g i cs t (0, 0) h
theorem Blk.frozen (h : Blk w g t cs) (i : Nat) : w.frozen? ⟨g, i, none⟩ = false := by
  unfold Blk at h
  simp [World.frozen?, h]
theorem Blk.new (w : World) (t : TypeId) (cs : Array Value) : Blk (w.alloc (.cells cs t)) w.heap.size t cs := heap_alloc_new w _
theorem Blk.drew (h : Blk w g t cs) : Blk w.drew g t cs := h
theorem Blk.drewN (h : Blk w g t cs) (n : Nat) : Blk (w.drewN n) g t cs := h
theorem Blk.alloc (h : Blk w g t cs) (o : Obj) : Blk (w.alloc o) g t cs := (Below.heap_alloc w o g h.lt).trans h
theorem Blk.set_ (h : Blk w g t cs) (i : Nat) (u : Value) : Blk (w.setCell ⟨g, i, none⟩ u) g t (cs.setIfInBounds i u) := by
  unfold Blk at h ⊢
  simp [World.setCell, Array.getElem?_modify, h]
theorem Blk.far (h : Blk w g t cs) {p : Addr} (hp : g ≠ p.block) (u : Value) : Blk (w.setCell p u) g t cs := (Below.heap_setCell w p u g hp).trans h
theorem Blk.below {B : Nat} (h : Blk w g t cs) (hb : Below B w w') (hg : g < B) : Blk w' g t cs := (hb.block g hg).trans h
theorem Blk.grown {row : Option Nat} (h : Blk w g t cs) (hb : w.grownBy w' row) (hg : some g ≠ row) : Blk w' g t cs := (hb.block g h.lt hg).trans h
theorem Blk.ne_ {g' : Nat} {t' : TypeId} {cs' : Array Value} (h : Blk w g t cs) (h' : Blk w g' t' cs') (hne : t ≠ t') : g ≠ g' := by
  rintro rfl
  unfold Blk at h h'
  rw [h] at h'
  injection h' with h'
  injection h' with _ ht
  exact hne ht
theorem own_blk_ne {base : Nat} {e : TypeId} {size n : Nat} {v : Value} {xs : List Value} (h : w.ownsRow base e size v n xs) (hg : Blk w g t cs) (hne : e ≠ t) : v.ownBlock ≠ some g := by
  rcases h.2 with ⟨rfl, _⟩ | ⟨g', cap, cur, rfl, _, hh, _⟩
  · simp [Value.ownBlock]
  · intro he
    have : g' = g := by simpa [Value.ownBlock] using he
    subst this
    exact Blk.ne_ (t := e) hh hg hne rfl
end

section
variable {P : Program} (w : World)

theorem run_append_of_nil (base : Nat) (t ty e : TypeId) (i : TypeInfo) (size : Nat) (ht : P.underlying t = some (.slice e)) (hi : P.info? e = some i)
    (v : Value) (n : Nat) (xs : List Value) (hown : w.ownsRow base e size v n xs) (c : Nat) : (Builtin.append_ #[t, t] ty #[v, .slice none 0 c]).run P w = .ok v w := by
  rcases hown.2 with ⟨rfl, rfl⟩ | ⟨g, cap, cur, rfl, _, _, hnc, _⟩
  · simp [Builtin.append_, run_underlying ht, sizeOf, typeInfo, hi, Builtin.lenOf, Builtin.firstCells]
  · simp [Builtin.append_, run_underlying ht, sizeOf, typeInfo, hi, Builtin.lenOf, Builtin.firstCells, hnc, storeCells]

theorem run_append_any (base : Nat) (t ty e : TypeId) (i : TypeInfo) (z : Value) (size bytes : Nat) (ht : P.underlying t = some (.slice e)) (hi : P.info? e = some i) (hz : i.zero = some z)
    (hsize : i.size = size) (hby : i.bytes = bytes) (hzs : z.cells.size = size) (hsz : 0 < size)
    (v : Value) (n : Nat) (xs : List Value) (hown : w.ownsRow base e size v n xs)
    (B : Nat) (A : Option Addr) (m c : Nat) (news : List Value) (hr : Reads w B size A m news) (h1 : ∀ u ∈ news, u.oneCell' = true)
    (h63 : n + m ≤ maxLen) (hbytes : (n + m) * bytes ≤ 140737488355328) (hbase : base ≤ w.heap.size) :
    ∃ v' w', (Builtin.append_ #[t, t] ty #[v, .slice A m c]).run P w = .ok v' w' ∧ w'.ownsRow base e size v' (n + m) (xs ++ news) ∧ w.grownBy w' v.ownBlock ∧
      (v'.ownBlock = v.ownBlock ∨ v'.ownBlock = some w.heap.size) := by
  rcases A with _ | ad
  · have hm : m = 0 := by
      rcases Nat.eq_zero_or_pos m with h0 | h0
      · exact h0
      · obtain ⟨ad, h, _⟩ := hr.2 h0
        cases h
    subst hm
    have hn : news = [] := List.eq_nil_of_length_eq_zero (by simpa using hr.1)
    subst hn
    exact ⟨v, w, run_append_of_nil w base t ty e i size ht hi v n xs hown c, by simpa using hown, World.grownBy.refl w _, .inl rfl⟩
  · have hcells : ∀ j u, news[j]? = some u → w.cell? (ad.add j) = some u := by
      intro j u hu
      rcases Nat.eq_zero_or_pos m with h0 | h0
      · subst h0
        have hn : news = [] := List.eq_nil_of_length_eq_zero (by simpa using hr.1)
        subst hn
        simp at hu
      · obtain ⟨ad', h, _, hc⟩ := hr.2 h0
        injection h with h
        subst h
        exact hc j u hu
    obtain ⟨v', w', hrun, h2, h3, _, h5⟩ := run_append_own_at (P := P) w base t ty e i z size bytes ht hi hz hsize hby hzs hsz v n xs hown ad m c news hr.1 hcells h1 h63 hbytes hbase
    exact ⟨v', w', hrun, h2, h3, h5⟩

theorem wp_append_any {o : Oper} {a : Act} {K : Act → World → Prop} {Q : Exit → Act → World → Prop} (s x : Operand) (t : TypeId)
    (ho : o.op = .call { callee := .builtin .append, args := #[s, x], argTypes := #[t, t] })
    (base : Nat) (e : TypeId) (i : TypeInfo) (z : Value) (size bytes : Nat) (ht : P.underlying t = some (.slice e)) (hi : P.info? e = some i) (hz : i.zero = some z)
    (hsize : i.size = size) (hby : i.bytes = bytes) (hzs : z.cells.size = size) (hsz : 0 < size)
    (v : Value) (n : Nat) (xs : List Value) (hs : a.eval s = v) (hown : w.ownsRow base e size v n xs)
    (B : Nat) (A : Option Addr) (m c : Nat) (news : List Value) (hx : a.eval x = .slice A m c) (hr : Reads w B size A m news) (h1 : ∀ u ∈ news, u.oneCell' = true)
    (h63 : n + m ≤ maxLen) (hbytes : (n + m) * bytes ≤ 140737488355328) (hbase : base ≤ w.heap.size)
    (h : ∀ v' w', w'.ownsRow base e size v' (n + m) (xs ++ news) → w.grownBy w' v.ownBlock → (v'.ownBlock = v.ownBlock ∨ v'.ownBlock = some w.heap.size) → K (a.put o.dst v') w') : o.wp P a w K Q := by
  obtain ⟨v', w', hrun, h2, h3, h4⟩ := run_append_any (P := P) w base t o.type e i z size bytes ht hi hz hsize hby hzs hsz v n xs hown B A m c news hr h1 h63 hbytes hbase
  unfold Oper.wp execOp
  simp only [ho, resolve, invoke, builtin, Sem.run_bind, Sem.run_pure, Result.andThen_ok, List.map_toArray, List.map_cons, List.map_nil, hs, hx, hrun]
  exact h v' w' h2 h3 h4

theorem wpList_append_any {ops : Array Oper} {rest : List Oper} {o : Oper} {a : Act} {Q : Exit → Act → World → Prop} (hgd : o.guard = none) (s x : Operand) (t : TypeId)
    (ho : o.op = .call { callee := .builtin .append, args := #[s, x], argTypes := #[t, t] })
    (base : Nat) (e : TypeId) (i : TypeInfo) (z : Value) (size bytes : Nat) (ht : P.underlying t = some (.slice e)) (hi : P.info? e = some i) (hz : i.zero = some z)
    (hsize : i.size = size) (hby : i.bytes = bytes) (hzs : z.cells.size = size) (hsz : 0 < size)
    (v : Value) (n : Nat) (xs : List Value) (hs : a.eval s = v) (hown : w.ownsRow base e size v n xs)
    (B : Nat) (A : Option Addr) (m c : Nat) (news : List Value) (hx : a.eval x = .slice A m c) (hr : Reads w B size A m news) (h1 : ∀ u ∈ news, u.oneCell' = true)
    (h63 : n + m ≤ maxLen) (hbytes : (n + m) * bytes ≤ 140737488355328) (hbase : base ≤ w.heap.size)
    (h : ∀ v' w', w'.ownsRow base e size v' (n + m) (xs ++ news) → w.grownBy w' v.ownBlock → (v'.ownBlock = v.ownBlock ∨ v'.ownBlock = some w.heap.size) → wpList P ops Q rest (a.put o.dst v') w') : wpList P ops Q (o :: rest) a w :=
  wpList_plain hgd fun _ hK => wp_append_any w s x t ho base e i z size bytes ht hi hz hsize hby hzs hsz v n xs hs hown B A m c news hx hr h1 h63 hbytes hbase fun v' w' h2 h3 h4 => hK _ _ (h v' w' h2 h3 h4)

theorem step_append_any {ops : Array Oper} {o : Oper} {a : Act} {K : Act → World → Prop} {Q : Exit → Act → World → Prop} {E : Prop} (hgd : o.guard = none) (s x : Operand) (t : TypeId)
    (ho : o.op = .call { callee := .builtin .append, args := #[s, x], argTypes := #[t, t] })
    (base : Nat) (e : TypeId) (i : TypeInfo) (z : Value) (size bytes : Nat) (ht : P.underlying t = some (.slice e)) (hi : P.info? e = some i) (hz : i.zero = some z)
    (hsize : i.size = size) (hby : i.bytes = bytes) (hzs : z.cells.size = size) (hsz : 0 < size)
    (v : Value) (n : Nat) (xs : List Value) (hs : a.eval s = v) (hown : w.ownsRow base e size v n xs)
    (B : Nat) (A : Option Addr) (m c : Nat) (news : List Value) (hx : a.eval x = .slice A m c) (hr : Reads w B size A m news) (h1 : ∀ u ∈ news, u.oneCell' = true)
    (h63 : n + m ≤ maxLen) (hbytes : (n + m) * bytes ≤ 140737488355328) (hbase : base ≤ w.heap.size)
    (h : ∀ v' w', w'.ownsRow base e size v' (n + m) (xs ++ news) → w.grownBy w' v.ownBlock → (v'.ownBlock = v.ownBlock ∨ v'.ownBlock = some w.heap.size) → K (a.put o.dst v') w') :
    if Region.wanted o (yielded ops a.tmps) = true then Oper.wp P o a w K Q else E := by
  have hw : Region.wanted o (yielded ops a.tmps) = true := by simp [Region.wanted, hgd]
  rw [if_pos hw]
  exact wp_append_any w s x t ho base e i z size bytes ht hi hz hsize hby hzs hsz v n xs hs hown B A m c news hx hr h1 h63 hbytes hbase h
end

theorem below_drewN {B : Nat} {a w : World} (h : Below B a w) (n : Nat) : Below B a (w.drewN n) := ⟨h.os, h.tape, h.output, h.size, h.block⟩
theorem rowIs_drewN {w : World} {b : Nat} {t : TypeId} {n : Nat} {f : Nat → Value} (h : w.rowIs b t n f) (k : Nat) : (w.drewN k).rowIs b t n f := h
theorem grown_trans {a b c : World} (h : Grown a b) (k : Grown b c) : Grown a c :=
  ⟨World.keptBut_trans h.1 k.1, fun x => (k.2.1 x).trans (h.2.1 x), Nat.le_trans h.2.2 k.2.2⟩

theorem only_drewN {a w : World} {row : Option Nat} (h : a.grownBy w row) (n : Nat) : a.grownBy (w.drewN n) row := ⟨h.os, h.tape, h.output, h.size, h.block⟩
theorem only_drew {a w : World} {row : Option Nat} (h : a.grownBy w row) : a.grownBy w.drew row := ⟨h.os, h.tape, h.output, h.size, h.block⟩
theorem only_alloc {a w : World} {row : Option Nat} (h : a.grownBy w row) (o : Obj) : a.grownBy (w.alloc o) row :=
  ⟨h.os, h.tape, h.output, Nat.le_trans h.size (by simp), fun i hi hne => (Below.heap_alloc w o i (Nat.lt_of_lt_of_le hi h.size)).trans (h.block i hi hne)⟩
theorem only_setCell {a w : World} {g : Nat} (h : a.grownBy w (some g)) {p : Addr} (hp : p.block = g ∨ a.heap.size ≤ p.block) (u : Value) : a.grownBy (w.setCell p u) (some g) :=
  ⟨h.os, h.tape, h.output, by simpa [World.setCell] using h.size, fun i hi hne => (Below.heap_setCell w p u i (by
    rintro rfl
    rcases hp with hp | hp
    · exact hne (by rw [hp])
    · omega)).trans (h.block i hi hne)⟩
theorem only_of_below {a w : World} (h : Below a.heap.size a w) (row : Option Nat) : a.grownBy w row := ⟨h.os, h.tape, h.output, h.size, fun i hi _ => h.block i hi⟩

theorem run_make_rowN {P : Program} (t e : TypeId) (i : TypeInfo) (z : Value) (ht : P.underlying t = some (.slice e)) (hi : P.info? e = some i) (hz : i.zero = some z)
    (kl kc : IntKind) (n c : Nat) (hnc : n ≤ c) (hbytes : i.bytes * c ≤ 281474976710656) (h63 : c ≤ 9223372036854775807) (w : World) :
    (Instr.makeSlice t (.int kl (n : Int)) (.int kc (c : Int))).run P w = .ok (.slice (some ⟨w.heap.size, 0, none⟩) n c) (w.alloc (.cells (madeCells z.cells (c * i.size)) e)) := by
  have hb : (i.bytes : Int) * (c : Int) ≤ 281474976710656 := by
    have h : ((i.bytes * c : Nat) : Int) ≤ 281474976710656 := by omega
    rwa [Int.natCast_mul] at h
  have hr := run_make (P := P) w t e i z ht hi hz kl kc n c (by omega) (by omega) hb (by omega)
  simp only [Int.toNat_natCast] at hr
  exact hr
theorem run_makeMap_hint {P : Program} (t k e : TypeId) (kd : IntKind) (n : Int) (ht : P.underlying t = some (.map k e)) (w : World) :
    (Instr.makeMap t (some (.int kd n))).run P w = .ok (.map (some w.heap.size)) (w.alloc (.map #[] 0)) := by
  simp [Instr.makeMap, run_underlying ht]; rfl

section
variable {H : Type} {enc : TypeId × Value → H} {P : Program}
theorem post_of_below {f : Func} {s : ChangeSpec} {apart fresh handsOn again : Bool} {W W' : World} {args : Array Value} {v : Value} {ds gs : List (DataW H)} {before pa pv : List MemPlace}
    (hW : DataW.Whole enc P f.params.toList s.vars apart W args.toList ds gs before)
    (hres : ∀ (b : Nat) (sp : Nat → Bool) (hd : Bool), DataW.TrodAll enc P W' b sp hd f.resultTypes.toList (v.resultList f.resultTypes.size) (s.fn H (ds ++ gs)).results [])
    (hargs : ∀ sp : Nat → Bool, (∀ p ∈ before, sp p.block = true) → DataW.TrodAll enc P W' 0 sp true f.params.toList args.toList (s.fn H (ds ++ gs)).args pa)
    (hvars : ∀ sp : Nat → Bool, (∀ p ∈ before, sp p.block = true) → DataW.TrodVars enc P W' sp s.vars (s.fn H (ds ++ gs)).vars pv)
    (hps : before = pa ++ pv) (hb : Below W.heap.size W W')
    (hok : ∀ (j : Nat) (t : TypeId) (r : Value), f.resultTypes[j]? = some t → (v.resultList f.resultTypes.size)[j]? = some r → Value.okWide P W' .any 0 t r) :
    s.post enc P f apart fresh handsOn again W args v W' := by
  have hlt : ∀ p ∈ before, p.block < W.heap.size := fun p hp => hW.lt p hp
  have hold : ∀ p ∈ before, (fun b => decide (b < W.heap.size)) p.block = true := fun p hp => by simpa using hlt p hp
  refine ⟨ds, gs, before, [], pa, pv, hW, hres _ _ _, hargs _ hold, hvars _ hold, World.keptBut_mono (fun p hp => ⟨hp, ?_⟩) (hb.frame (· ∈ before)), fun _ => ?_⟩
  · rw [hps, List.mem_append] at hp
    exact Or.inr hp
  · obtain ⟨_, _, _, _, _, hz, hn⟩ := hW
    refine ⟨hok, _, _, ([] ++ pa) ++ pv, ⟨[] ++ pa, pv, trodAll_append (hargs _ (fun _ _ => rfl)) (hres _ _ _), hvars _ (fun _ _ => rfl), rfl, ?_, ?_⟩, ?_⟩
    · intro b off hp
      have hin : MemPlace.cell b off ∈ before := by rw [hps]; simpa using hp
      rw [hb.frozen (hlt _ hin)]
      exact hz b off hin
    · intro ha
      have := hn ha
      rw [hps] at this
      simpa using this
    · intro p hp _
      rw [hps]
      simpa using hp
end

theorem quiet_add {P : Program} {f : FuncId} {args : Array Value} {w : World} {a n : Nat} {v : Value}
    (h : Calls P f args (w.drewN (a + n)) fun e w' => e = .returned v ∧ ∃ m, w' = (w.drewN (a + n)).drewN m) :
    Calls P f args (w.drewN (a + n)) fun e w'' => e = .returned v ∧ ∃ m, w'' = w.drewN (a + m) :=
  h.mono fun _ _ ⟨he, m, hm⟩ => ⟨he, n + m, by rw [hm, World.drewN_drewN, Nat.add_assoc]⟩
theorem quiet_add_same {P : Program} {f : FuncId} {args : Array Value} {w : World} {a n : Nat} {v : Value}
    (h : Calls P f args (w.drewN (a + n)) fun e w' => e = .returned v ∧ w' = w.drewN (a + n)) :
    Calls P f args (w.drewN (a + n)) fun e w'' => e = .returned v ∧ ∃ m, w'' = w.drewN (a + m) :=
  h.mono fun _ _ ⟨he, hm⟩ => ⟨he, n, hm⟩
theorem quiet_add_left {P : Program} {f : FuncId} {args : Array Value} {w : World} {a n : Nat} {v : Value}
    (h : Calls P f args (w.drewN (a + n)) fun e w' => e = .returned v ∧ w.drewN (a + n) = w') :
    Calls P f args (w.drewN (a + n)) fun e w'' => e = .returned v ∧ ∃ m, w'' = w.drewN (a + m) :=
  h.mono fun _ _ ⟨he, hm⟩ => ⟨he, n, hm.symm⟩
theorem quiet_left {P : Program} {f : FuncId} {args : Array Value} {w : World} {n : Nat} {v : Value}
    (h : Calls P f args (w.drewN n) fun e w' => e = .returned v ∧ w.drewN n = w') : Calls P f args (w.drewN n) fun e w'' => e = .returned v ∧ ∃ m, w'' = w.drewN m :=
  h.mono fun _ _ ⟨he, hm⟩ => ⟨he, n, hm.symm⟩
theorem results_tmp4 {fn : Func} {t u v x : Tmp} (h : fn.results = #[.tmp t, .tmp u, .tmp v, .tmp x]) (tmps : Array Value) (P : Program) (w : World) :
    (results fn tmps).run P w = .ok (.tuple #[tmps.getD t undef, tmps.getD u undef, tmps.getD v undef, tmps.getD x undef]) w := by simp [results, h]
theorem results_tmp5 {fn : Func} {t u v x y : Tmp} (h : fn.results = #[.tmp t, .tmp u, .tmp v, .tmp x, .tmp y]) (tmps : Array Value) (P : Program) (w : World) :
    (results fn tmps).run P w = .ok (.tuple #[tmps.getD t undef, tmps.getD u undef, tmps.getD v undef, tmps.getD x undef, tmps.getD y undef]) w := by simp [results, h]

/-- A slice of uint32 that reads as a list of numbers. -/
def Es (w : World) (B : Nat) (A : Option Addr) (len : Nat) (es : List Nat) : Prop :=
  Reads w B 1 A len (U32 es) ∧ (len = es.length ∧ len ≤ 9223372036854775807) ∧ ∀ e ∈ es, e < 4294967296
/-- A slice of int that reads as a list of numbers. -/
def Xs (w : World) (B : Nat) (A : Option Addr) (len : Nat) (xs : List Int) : Prop :=
  Reads w B 1 A len (I64 xs) ∧ (len = xs.length ∧ len ≤ 9223372036854775807) ∧ ∀ x ∈ xs, -9223372036854775808 ≤ x ∧ x ≤ 9223372036854775807
section
variable {w w' : World} {B B' n k : Nat} {A : Option Addr} {es : List Nat} {xs : List Int}
theorem Es.len (h : Es w B A n es) : n = es.length := h.2.1.1
theorem Es.le (h : Es w B A n es) : n ≤ 9223372036854775807 := h.2.1.2
theorem Es.lt (h : Es w B A n es) (hk : k < n) : nth es k < 4294967296 := h.2.2 _ (nth_mem (by rw [← h.len]; exact hk))
theorem Es.at_ (h : Es w B A n es) (hk : k < n) : ∃ ad, A = some ad ∧ ad.block < B ∧ w.cell? (ad.add k) = some (.int .u32 (nth es k : Int)) := by
  obtain ⟨ad, u, e, hb, hx, hc⟩ := h.1.at_ hk
  obtain rfl := U32_get hx
  exact ⟨ad, e, hb, hc⟩
theorem Es.below (h : Es w B A n es) (hb : Below B w w') : Es w' B A n es := ⟨h.1.below hb, h.2⟩
theorem Es.more (h : Es w B A n es) (hB : B ≤ B') : Es w B' A n es := ⟨h.1.more hB, h.2⟩
theorem Es.new (h : Es w w.heap.size A n es) (hb : Below w.heap.size w w') : Es w' w'.heap.size A n es := (h.below hb).more hb.size
theorem Es.alloc (h : Es w B A n es) (hB : B ≤ w.heap.size) (o : Obj) : Es (w.alloc o) B A n es := ⟨h.1.alloc hB o, h.2⟩
theorem Xs.len (h : Xs w B A n xs) : n = xs.length := h.2.1.1
theorem Xs.le (h : Xs w B A n xs) : n ≤ 9223372036854775807 := h.2.1.2
theorem Xs.lt (h : Xs w B A n xs) (hk : k < n) : -9223372036854775808 ≤ inth xs k ∧ inth xs k ≤ 9223372036854775807 := h.2.2 _ (inth_mem (by rw [← h.len]; exact hk))
theorem Xs.at_ (h : Xs w B A n xs) (hk : k < n) : ∃ ad, A = some ad ∧ ad.block < B ∧ w.cell? (ad.add k) = some (.int .i64 (inth xs k)) := by
  obtain ⟨ad, u, e, hb, hx, hc⟩ := h.1.at_ hk
  obtain rfl := I64_get hx
  exact ⟨ad, e, hb, hc⟩
theorem Xs.below (h : Xs w B A n xs) (hb : Below B w w') : Xs w' B A n xs := ⟨h.1.below hb, h.2⟩
theorem Xs.more (h : Xs w B A n xs) (hB : B ≤ B') : Xs w B' A n xs := ⟨h.1.more hB, h.2⟩
theorem Xs.new (h : Xs w w.heap.size A n xs) (hb : Below w.heap.size w w') : Xs w' w'.heap.size A n xs := (h.below hb).more hb.size
theorem Xs.alloc (h : Xs w B A n xs) (hB : B ≤ w.heap.size) (o : Obj) : Xs (w.alloc o) B A n xs := ⟨h.1.alloc hB o, h.2⟩
end
/-- Rows of the call's own, whole. -/
def urow (l : List Nat) : Array Value := (U32 l).toArray
def irow (l : List Int) : Array Value := (I64 l).toArray
def brow (l : List Bool) : Array Value := (l.map Value.bool).toArray
def bnth (l : List Bool) (k : Nat) : Bool := l.getD k false
theorem urow_get {l : List Nat} {k : Nat} (h : k < l.length) : (urow l)[k]? = some (.int .u32 (nth l k : Int)) := by simp [urow, U32, nth, List.getD, h]
theorem irow_get {l : List Int} {k : Nat} (h : k < l.length) : (irow l)[k]? = some (.int .i64 (inth l k)) := by simp [irow, I64, inth, List.getD, h]
theorem brow_get {l : List Bool} {k : Nat} (h : k < l.length) : (brow l)[k]? = some (.bool (bnth l k)) := by simp [brow, bnth, List.getD, h]
theorem urow_set (l : List Nat) (k x : Nat) : (urow l).setIfInBounds k (.int .u32 (x : Int)) = urow (l.set k x) := by simp [urow, U32, List.map_set]
theorem irow_set (l : List Int) (k : Nat) (x : Int) : (irow l).setIfInBounds k (.int .i64 x) = irow (l.set k x) := by simp [irow, I64, List.map_set]
theorem brow_set (l : List Bool) (k : Nat) (x : Bool) : (brow l).setIfInBounds k (.bool x) = brow (l.set k x) := by simp [brow, List.map_set]
theorem urow_make (n : Nat) : madeCells #[.int .u32 0] n = urow (List.replicate n 0) := by
  apply Array.ext'; rw [toList_madeCells_one]; simp [urow, U32]
theorem irow_make (n : Nat) : madeCells #[.int .i64 0] n = irow (List.replicate n 0) := by
  apply Array.ext'; rw [toList_madeCells_one]; simp [irow, I64]
theorem brow_make (n : Nat) : madeCells #[.bool false] n = brow (List.replicate n false) := by
  apply Array.ext'; rw [toList_madeCells_one]; simp [brow]
/-- A row of zeros. -/
def zer (n : Nat) : List Nat := List.replicate n 0
theorem zer_length (n : Nat) : (zer n).length = n := by simp [zer]
theorem nth_set {l : List Nat} {k x j : Nat} (hk : k < l.length) : nth (l.set k x) j = if j = k then x else nth l j := by
  simp only [nth, List.getD, List.getElem?_set]
  by_cases h : k = j
  · subst h; simp [hk]
  · simp [h, Ne.symm h]
theorem inth_set {l : List Int} {k j : Nat} {x : Int} (hk : k < l.length) : inth (l.set k x) j = if j = k then x else inth l j := by
  simp only [inth, List.getD, List.getElem?_set]
  by_cases h : k = j
  · subst h; simp [hk]
  · simp [h, Ne.symm h]
theorem bnth_set {l : List Bool} {k j : Nat} {x : Bool} (hk : k < l.length) : bnth (l.set k x) j = if j = k then x else bnth l j := by
  simp only [bnth, List.getD, List.getElem?_set]
  by_cases h : k = j
  · subst h; simp [hk]
  · simp [h, Ne.symm h]
theorem nth_replicate (n j : Nat) : nth (List.replicate n 0) j = 0 := by
  simp only [nth, List.getD, List.getElem?_replicate]; split <;> rfl
theorem nth_zer (n j : Nat) : nth (zer n) j = 0 := nth_replicate n j
theorem inth_replicate (n j : Nat) : inth (List.replicate n 0) j = 0 := by
  simp only [inth, List.getD, List.getElem?_replicate]; split <;> rfl
theorem bnth_replicate (n j : Nat) : bnth (List.replicate n false) j = false := by
  simp only [bnth, List.getD, List.getElem?_replicate]; split <;> rfl
theorem Es.of_blk {w : World} {g t : Nat} {l : List Nat} (h : Blk w g t (urow l)) (hl : l.length ≤ 9223372036854775807) (hb : ∀ e ∈ l, e < 4294967296) : Es w w.heap.size (some ⟨g, 0, none⟩) l.length l :=
  ⟨⟨by simp [U32_length], fun _ => ⟨_, rfl, h.lt, fun j u hu => by
    have e : (Addr.add ⟨g, 0, none⟩ j) = ⟨g, j, none⟩ := by unfold Addr.add; split <;> simp_all
    rw [e, h.cell]; simpa [urow] using hu⟩⟩, ⟨rfl, hl⟩, hb⟩
theorem Xs.of_blk {w : World} {g t : Nat} {l : List Int} (h : Blk w g t (irow l)) (hl : l.length ≤ 9223372036854775807) (hb : ∀ x ∈ l, -9223372036854775808 ≤ x ∧ x ≤ 9223372036854775807) : Xs w w.heap.size (some ⟨g, 0, none⟩) l.length l :=
  ⟨⟨by simp [I64_length], fun _ => ⟨_, rfl, h.lt, fun j u hu => by
    have e : (Addr.add ⟨g, 0, none⟩ j) = ⟨g, j, none⟩ := by unfold Addr.add; split <;> simp_all
    rw [e, h.cell]; simpa [irow] using hu⟩⟩, ⟨rfl, hl⟩, hb⟩
theorem bcell {W w1 : World} (hb : Below W.heap.size W w1) : (∀ b o, b < W.heap.size → w1.cell? ⟨b, o, none⟩ = W.cell? ⟨b, o, none⟩) ∧ (∀ b o, b < W.heap.size → w1.frozen? ⟨b, o, none⟩ = W.frozen? ⟨b, o, none⟩) :=
  ⟨fun b o h => hb.cell (p := ⟨b, o, none⟩) h, fun b o h => hb.frozen (p := ⟨b, o, none⟩) h⟩
theorem ret_int {k : IntKind} {a b : Int} (h : a = b) : Ending.returned (.int k a) = .returned (.int k b) := by rw [h]
theorem ret_bool {a b : Bool} (h : a = b) : Ending.returned (.bool a) = .returned (.bool b) := by rw [h]

/-- Block g is a struct of a number and a slice (a boxed graph). -/
def GB (w : World) (g : Nat) (t : TypeId) (x y : Value) : Prop := Blk w g t #[x, y]
section
variable {w w' : World} {g : Nat} {t : TypeId} {x y : Value}
theorem GB.blk (h : GB w g t x y) : Blk w g t #[x, y] := h
theorem GB.c0 (h : GB w g t x y) : w.cell? ⟨g, 0, none⟩ = some x := by rw [h.blk.cell]; rfl
theorem GB.c1 (h : GB w g t x y) : w.cell? ⟨g, 1, none⟩ = some y := by rw [h.blk.cell]; rfl
theorem GB.f0 (h : GB w g t x y) : w.frozen? ⟨g, 0, none⟩ = false := h.blk.frozen 0
theorem GB.f1 (h : GB w g t x y) : w.frozen? ⟨g, 1, none⟩ = false := h.blk.frozen 1
theorem GB.lt (h : GB w g t x y) : g < w.heap.size := h.blk.lt
theorem GB.below (h : GB w g t x y) {B : Nat} (hb : Below B w w') (hg : g < B) : GB w' g t x y := h.blk.below hb hg
theorem GB.new (h : GB w g t x y) (hb : Below w.heap.size w w') : GB w' g t x y := h.blk.below hb h.lt
theorem GB.drewN (h : GB w g t x y) (k : Nat) : GB (w.drewN k) g t x y := h
theorem GB.drew (h : GB w g t x y) : GB w.drew g t x y := h
theorem GB.alloc (h : GB w g t x y) (o : Obj) : GB (w.alloc o) g t x y := h.blk.alloc o
theorem GB.far (h : GB w g t x y) {p : Addr} (hp : g ≠ p.block) (u : Value) : GB (w.setCell p u) g t x y := h.blk.far hp u
theorem GB.set0 (h : GB w g t x y) (u : Value) : GB (w.setCell ⟨g, 0, none⟩ u) g t u y := h.blk.set_ 0 u
theorem GB.set1 (h : GB w g t x y) (u : Value) : GB (w.setCell ⟨g, 1, none⟩ u) g t x u := h.blk.set_ 1 u
theorem GB.made (w : World) (t : TypeId) (x y : Value) : GB (w.alloc (.cells #[x, y] t)) w.heap.size t x y := Blk.new w t _
end

/-- A block's cells from o on, replaced. -/
def putFrom (cs : Array Value) : Nat → List Value → Array Value
  | _, [] => cs
  | o, v :: r => putFrom (cs.setIfInBounds o v) (o + 1) r
theorem size_putFrom (vs : List Value) : ∀ (cs : Array Value) (o : Nat), (putFrom cs o vs).size = cs.size := by
  induction vs with
  | nil => intro cs o; rfl
  | cons v r ih => intro cs o; rw [putFrom, ih]; simp
theorem get_putFrom (vs : List Value) : ∀ (cs : Array Value) (o i : Nat), o + vs.length ≤ cs.size → (putFrom cs o vs)[i]? = if o ≤ i ∧ i < o + vs.length then vs[i - o]? else cs[i]? := by
  induction vs with
  | nil => intro cs o i _; simp [putFrom]; intro h1 h2; omega
  | cons v r ih =>
    intro cs o i h
    simp only [List.length_cons] at h
    rw [putFrom, ih _ _ _ (by simp; omega)]
    by_cases h1 : o + 1 ≤ i ∧ i < o + 1 + r.length
    · rw [if_pos h1, if_pos (by simp only [List.length_cons]; omega), show i - o = (i - (o + 1)) + 1 from by omega, List.getElem?_cons_succ]
    · rw [if_neg h1]
      by_cases h2 : i = o
      · subst h2
        rw [if_pos (by simp only [List.length_cons]; omega)]
        simp [show i < cs.size by omega]
      · rw [if_neg (by simp only [List.length_cons]; omega)]
        simp [Ne.symm h2]
theorem putFrom_all (cs cells : Array Value) (h : cs.size = cells.size) : putFrom cs 0 cells.toList = cells := by
  apply Array.ext_getElem?
  intro i
  rw [get_putFrom _ _ _ _ (by simp [h])]
  by_cases hi : i < cells.size
  · rw [if_pos (by simp; exact hi)]; simp
  · rw [if_neg (by simp; omega)]; rw [Array.getElem?_eq_none (by omega), Array.getElem?_eq_none (by omega)]
theorem Blk.setCells {g : Nat} {t : TypeId} (vs : List Value) : ∀ (w : World) (cs : Array Value) (o : Nat), Blk w g t cs → Blk (w.setCells g o vs) g t (putFrom cs o vs) := by
  induction vs with
  | nil => intro w cs o h; exact h
  | cons v r ih => intro w cs o h; rw [World.setCells, putFrom]; exact ih _ _ _ (h.set_ o v)
theorem only_setCells {a : World} {g : Nat} (vs : List Value) : ∀ (w : World) (o : Nat), a.grownBy w (some g) → a.grownBy (w.setCells g o vs) (some g) := by
  induction vs with
  | nil => intro w o h; exact h
  | cons v r ih => intro w o h; rw [World.setCells]; exact ih _ _ (only_setCell h (.inl rfl) v)
theorem wpList_load_blk {P : Program} {ops : Array Oper} {rest : List Oper} {o : Oper} {a : Act} {w : World} {Q : Exit → Act → World → Prop} (hgd : o.guard = none) (ty : TypeId) (x : Operand) (ho : o.op = .load ty x)
    (g : Nat) (t : TypeId) (cs : Array Value) (d : TypeDesc) (hg : Blk w g t cs) (hx : a.eval x = .pointer (some ⟨g, 0, none⟩))
    (hu : P.underlying ty = some d) (hd : (match d with | .struct _ | .array _ _ => true | _ => false) = true) (hi : (P.info? ty).map (·.size) = some cs.size)
    (h : wpList P ops Q rest (a.put o.dst (.agg cs)) w) : wpList P ops Q (o :: rest) a w :=
  wpList_load_row hgd ty x ho g hx t cs (0, 0) d hg hu hd hi h
theorem wpList_store_blk {P : Program} {ops : Array Oper} {rest : List Oper} {op : Oper} {a : Act} {w : World} {Q : Exit → Act → World → Prop} (hgd : op.guard = none) (ty : TypeId) (x y : Operand) (ho : op.op = .store ty x y)
    (g : Nat) (t : TypeId) (cs cells : Array Value) (hg : Blk w g t cs) (hx : a.eval x = .pointer (some ⟨g, 0, none⟩)) (hy : a.eval y = .agg cells) (hsz : cs.size = cells.size)
    (hi : (P.info? ty).map (·.size) = some cells.size) (h1 : cells.all (·.oneCell') = true)
    (h : ∀ w', Blk w' g t cells → w.grownBy w' (some g) → w'.heap.size = w.heap.size → wpList P ops Q rest (a.put op.dst undef) w') : wpList P ops Q (op :: rest) a w := by
  refine wpList_store_mid hgd ty x y ho g 0 cells hx hy (fun j hj => ⟨?_, hg.frozen _⟩) hi h1 (h _ ?_ (only_setCells _ _ _ (World.grownBy.refl w _)) ?_)
  · rw [hg.cell]; simp [hsz, hj]
  · have := Blk.setCells cells.toList w cs 0 hg
    rwa [putFrom_all cs cells hsz] at this
  · have : ∀ (vs : List Value) (w : World) (o : Nat), (w.setCells g o vs).heap.size = w.heap.size := by
      intro vs
      induction vs with
      | nil => intro w o; rfl
      | cons v r ih => intro w o; rw [World.setCells, ih]; simp [World.setCell]
    exact this _ _ _
theorem size_urow (l : List Nat) : (urow l).size = l.length := by simp [urow, U32]
theorem size_irow (l : List Int) : (irow l).size = l.length := by simp [irow, I64]
theorem one_urow (l : List Nat) : (urow l).all (·.oneCell') = true := all_oneCell_toArray (by intro v hv; simp only [U32, List.mem_map] at hv; obtain ⟨_, _, rfl⟩ := hv; rfl)
theorem one_irow (l : List Int) : (irow l).all (·.oneCell') = true := all_oneCell_toArray (by intro v hv; simp only [I64, List.mem_map] at hv; obtain ⟨_, _, rfl⟩ := hv; rfl)

theorem al (w : World) (o : Obj) : Below w.heap.size w (w.alloc o) := (Below.refl _ _).alloc (Nat.le_refl _) _
/-- Two steps, each of which keeps all that stood. -/
theorem bthen {B : Nat} {a b c : World} (h : Below B a b) (k : Below b.heap.size b c) (hB : B ≤ b.heap.size) : Below B a c := h.trans (k.mono hB)
/-- What a region that draws its order keeps: all that stood at its start. -/
theorem olds {w0 w' : World} (hb : Below w0.heap.size w0 w') : (∀ p : Addr, p.block < w0.heap.size → w'.cell? p = w0.cell? p) ∧ Below w0.heap.size w0 w' := ⟨fun _ h => hb.cell h, hb⟩

end Go.Proofs.Ytamcibmjpmibdaa
namespace Go.Proofs.Ytamcibmjpmibdaa
open Go.ChangeShapes Go.WideShapes Go.ChangeAt Go.RowKit Go.Joins

theorem own_knob : ownKnob Try.prog.godebug = none := by kernel_rfl
theorem laid_out : laidOutB Try.prog = true := by kernel_rfl

section
variable {H : Type} {enc : TypeId × Value → H} {P : Program} {w : World} {base : Nat} {spare : Nat → Bool} {held : Bool}
theorem wf_u32 {z : Int} (h : (Lit.int .u32 z).wf = true) : 0 ≤ z ∧ z < 4294967296 := by
  have := bounds_u32 h; omega
theorem wf_i64 {z : Int} (h : (Lit.int .i64 z).wf = true) : -9223372036854775808 ≤ z ∧ z ≤ 9223372036854775807 := by
  have := bounds_i64 h; omega
theorem open_es {t e : TypeId} {fuel : Nat} {v : Value} {x : DataW H × List MemPlace} (ht : P.underlying t = some (.slice e)) (he : P.underlying e = some (.int .u32)) (hc : P.cellsOf e = 1)
    (h : DataW.trod enc P w base spare held fuel t [v] = some x) : ∃ A len cap es, v = .slice A len cap ∧ Es w w.heap.size A len es ∧ len ≤ cap := by
  rcases open_ints ht he hc h with ⟨hcs, _⟩ | ⟨a, len, cap, zs, hcs, _, hl, hm, hz, _, hcell, hwz⟩
  · cases hcs
    exact ⟨none, 0, 0, [], rfl, ⟨Reads.none_, ⟨rfl, by omega⟩, by simp⟩, Nat.le_refl _⟩
  · cases hcs
    unfold maxLen at hm
    have hlz : len ≤ zs.length := by rw [hz]; split <;> omega
    have hlen : ((zs.take len).map Int.toNat).length = len := by simp; omega
    refine ⟨some a, len, cap, (zs.take len).map Int.toNat, rfl, ⟨⟨by rw [U32_length, hlen]; omega, fun hn => ⟨a, rfl, ?_, fun j u hu => ?_⟩⟩, ⟨hlen.symm, by omega⟩, fun y hy => ?_⟩, hl⟩
    · have := block_lt_of_cell (hcell 0 (by omega))
      rwa [block_of_add] at this
    · have hj : j < len := by
        have := (List.getElem?_eq_some_iff.1 hu).1
        rw [U32_length, hlen] at this; exact this
      have h1 := hcell j (by omega)
      rw [h1]
      have h2 := U32_get hu
      rw [h2, nth_eq (by rw [hlen]; exact hj)]
      have h3 := (wf_u32 (hwz (zs[j]'(by omega)) (List.getElem_mem _))).1
      simp only [List.getElem_map, List.getElem_take, List.getD, List.getElem?_eq_getElem (show j < zs.length by omega), Option.getD_some]
      rw [Int.toNat_of_nonneg h3]
    · obtain ⟨z, hz1, rfl⟩ := List.mem_map.1 hy
      have := wf_u32 (hwz z (List.mem_of_mem_take hz1))
      omega
theorem open_xs {t e : TypeId} {fuel : Nat} {v : Value} {x : DataW H × List MemPlace} (ht : P.underlying t = some (.slice e)) (he : P.underlying e = some (.int .i64)) (hc : P.cellsOf e = 1)
    (h : DataW.trod enc P w base spare held fuel t [v] = some x) : ∃ A len cap xs, v = .slice A len cap ∧ Xs w w.heap.size A len xs ∧ len ≤ cap := by
  rcases open_ints ht he hc h with ⟨hcs, _⟩ | ⟨a, len, cap, zs, hcs, _, hl, hm, hz, _, hcell, hwz⟩
  · cases hcs
    exact ⟨none, 0, 0, [], rfl, ⟨Reads.none_, ⟨rfl, by omega⟩, by simp⟩, Nat.le_refl _⟩
  · cases hcs
    unfold maxLen at hm
    have hlz : len ≤ zs.length := by rw [hz]; split <;> omega
    have hlen : (zs.take len).length = len := by simp; omega
    refine ⟨some a, len, cap, zs.take len, rfl, ⟨⟨by rw [I64_length, hlen]; omega, fun hn => ⟨a, rfl, ?_, fun j u hu => ?_⟩⟩, ⟨hlen.symm, by omega⟩, fun y hy => ?_⟩, hl⟩
    · have := block_lt_of_cell (hcell 0 (by omega))
      rwa [block_of_add] at this
    · have hj : j < len := by
        have := (List.getElem?_eq_some_iff.1 hu).1
        rw [I64_length, hlen] at this; exact this
      have h1 := hcell j (by omega)
      rw [h1]
      have h2 := I64_get hu
      rw [h2, inth_eq (by rw [hlen]; exact hj)]
      simp only [List.getElem_take, List.getD, List.getElem?_eq_getElem (show j < zs.length by omega), Option.getD_some]
    · exact wf_i64 (hwz y (List.mem_of_mem_take hy))
end

end Go.Proofs.Ytamcibmjpmibdaa
namespace Go.Proofs
open Go.Shelf
def Try.lays169_ren : Go.Shelf.Ren := ⟨fun | 169 => 102 | n => n, fun | 70 => 143 | 9 => 9 | 0 => 0 | 72 => 145 | 37 => 134 | 127 => 156 | 3 => 3 | 5 => 5 | n => n, fun | n => n⟩
theorem Try.lays169 : Go.Proofs.Lays.n169 Try.prog Try.lays169_ren := {
  mixed := by kernel_rfl
  f169 := Try.func102.trans (congrArg some (by kernel_rfl))
  t0 := Try.underlying0
  a0 := Try.isAgg0
  z0 := Try.sizeOf0
  v0 := Try.zeroValue0
  t3 := Try.underlying3
  a3 := Try.isAgg3
  z3 := Try.sizeOf3
  v3 := Try.zeroValue3
  t9 := Try.underlying9
  a9 := Try.isAgg9
  z9 := Try.sizeOf9
  v9 := Try.zeroValue9
  t37 := Try.underlying134
  a37 := Try.isAgg134
  z37 := Try.sizeOf134
  v37 := Try.zeroValue134
  t70 := Try.underlying143
  a70 := Try.isAgg143
  z70 := Try.sizeOf143
  v70 := Try.zeroValue143
  t72 := Try.underlying145
  a72 := Try.isAgg145
  z72 := Try.sizeOf145
  v72 := Try.zeroValue145
  t127 := Try.underlying156
  a127 := Try.isAgg156
  z127 := Try.sizeOf156
  v127 := Try.zeroValue156 }
theorem Try.Builder_Extra_169 : Builder.Extra Try.prog Try.lays169_ren := {
  sizeBuilder := by kernel_rfl
  liesBuilder := by kernel_rfl
  t5 := Try.underlying5
  a5 := Try.isAgg5
  z5 := Try.sizeOf5
  v5 := Try.zeroValue5
  infoByte := by kernel_rfl
  cellsByte := by kernel_rfl
  sizeByte := by kernel_rfl
  neB5 := by decide }
open Go.RowKit in
/-- (*strings.Builder).String: "String returns the accumulated string.": OF A BUILDER THAT HOLDS AT LEAST ONE BYTE. ✋ THE MODEL FREEZES THOSE BYTES IN THE BUFFER (unsafe.String): a later write INTO them ends the model's run without an answer; a later append BEHIND them goes on. The statement's order of evaluation is drawn: one draw. (LAID: no walk: one application.) -/
theorem Try.Builder_String (B b : Nat) (l : List UInt8) (w : World) (h : Lib.IsBuilder 145 5 B b (Lib.byteCells l) w) (h0 : l ≠ []) :
    Calls Try.prog 102 #[.pointer (some ⟨b, 0, none⟩)] w fun e w' => e = .returned (.string ⟨l.toArray⟩) ∧ Below B w w' := Any.Builder_String Try.lays169 Try.Builder_Extra_169 B b l w h h0
open Go.RowKit in
/-- (*strings.Builder).String OF A BUILDER THAT HOLDS NO BYTE: the empty string. (Its buffer is nil, or a row of which it has taken nothing yet; where that row has NO capacity the model lays one new block for unsafe.SliceData's 'some address'.) One draw. (LAID: no walk: one application.) -/
theorem Try.Builder_String_empty (B b : Nat) (w : World) (h : Lib.IsBuilder 145 5 B b [] w) (hBw : B ≤ w.heap.size) :
    Calls Try.prog 102 #[.pointer (some ⟨b, 0, none⟩)] w fun e w' => e = .returned (.string ⟨#[]⟩) ∧ Below B w w' := Any.Builder_String_empty Try.lays169 Try.Builder_Extra_169 B b w h hBw
open Go.RowKit in
/-- (*strings.Builder).String: "String returns the accumulated string.": WHATEVER THE BUILDER HOLDS. (LAID: no walk: one application.) -/
theorem Try.Builder_String_any (B b : Nat) (l : List UInt8) (w : World) (h : Lib.IsBuilder 145 5 B b (Lib.byteCells l) w) (hBw : B ≤ w.heap.size) :
    Calls Try.prog 102 #[.pointer (some ⟨b, 0, none⟩)] w fun e w' => e = .returned (.string ⟨l.toArray⟩) ∧ Below B w w' := Any.Builder_String_any Try.lays169 Try.Builder_Extra_169 B b l w h hBw
def Try.lays241_ren : Go.Shelf.Ren := ⟨fun | 241 => 110 | 277 => 112 | n => n, fun | 70 => 143 | 3 => 3 | 0 => 0 | 72 => 145 | 37 => 134 | 5 => 5 | n => n, fun | n => n⟩
theorem Try.lays241 : Go.Proofs.Lays.n241 Try.prog Try.lays241_ren := {
  mixed := by kernel_rfl
  f241 := Try.func110.trans (congrArg some (by kernel_rfl))
  f277 := Try.func112.trans (congrArg some (by kernel_rfl))
  t0 := Try.underlying0
  a0 := Try.isAgg0
  z0 := Try.sizeOf0
  v0 := Try.zeroValue0
  t3 := Try.underlying3
  a3 := Try.isAgg3
  z3 := Try.sizeOf3
  v3 := Try.zeroValue3
  t37 := Try.underlying134
  a37 := Try.isAgg134
  z37 := Try.sizeOf134
  v37 := Try.zeroValue134
  t70 := Try.underlying143
  a70 := Try.isAgg143
  z70 := Try.sizeOf143
  v70 := Try.zeroValue143
  t72 := Try.underlying145
  a72 := Try.isAgg145
  z72 := Try.sizeOf145
  v72 := Try.zeroValue145 }
theorem Try.Builder_Extra_241 : Builder.Extra Try.prog Try.lays241_ren := {
  sizeBuilder := by kernel_rfl
  liesBuilder := by kernel_rfl
  t5 := Try.underlying5
  a5 := Try.isAgg5
  z5 := Try.sizeOf5
  v5 := Try.zeroValue5
  infoByte := by kernel_rfl
  cellsByte := by kernel_rfl
  sizeByte := by kernel_rfl
  neB5 := by decide }
open Go.RowKit in
/-- (*strings.Builder).grow (no doc but "grow copies the buffer to a new, larger buffer so that there are at least n bytes of capacity beyond len(b.buf)."): AT A BUILDER WITHOUT A BUFFER: a new row of whatever bytes for its buffer, none of them its own yet. Three draws. (LAID: no walk: one application.) -/
theorem Try.Builder_grow_fresh (B b n : Nat) (w : World) (hB : B ≤ b) (hbk : w.heap[b]? = some (.cells #[.pointer (some ⟨b, 0, none⟩), .slice none 0 0] 145 (0, 0))) (hBw : B ≤ w.heap.size) (hn : n ≤ 281474976710656) :
    Calls Try.prog 110 #[.pointer (some ⟨b, 0, none⟩), .int .i64 n] w fun e w' => e = .returned (.tuple #[]) ∧ (Lib.BuilderAt 145 5 B b (.pointer (some ⟨b, 0, none⟩)) [] w' ∧ Below B w w') := Any.Builder_grow_fresh Try.lays241 Try.Builder_Extra_241 B b n w hB hbk hBw hn
def Try.lays165_ren : Go.Shelf.Ren := ⟨fun | 165 => 100 | 240 => 109 | 241 => 110 | 276 => 111 | 277 => 112 | n => n, fun | 70 => 143 | 3 => 3 | 0 => 0 | 4 => 4 | 9 => 9 | 20 => 20 | 72 => 145 | 37 => 134 | 164 => 157 | 5 => 5 | n => n, fun | n => n⟩
theorem Try.lays165 : Go.Proofs.Lays.n165 Try.prog Try.lays165_ren := {
  mixed := by kernel_rfl
  f165 := Try.func100.trans (congrArg some (by kernel_rfl))
  f240 := Try.func109.trans (congrArg some (by kernel_rfl))
  f241 := Try.func110.trans (congrArg some (by kernel_rfl))
  f276 := Try.func111.trans (congrArg some (by kernel_rfl))
  f277 := Try.func112.trans (congrArg some (by kernel_rfl))
  t0 := Try.underlying0
  a0 := Try.isAgg0
  z0 := Try.sizeOf0
  v0 := Try.zeroValue0
  t3 := Try.underlying3
  a3 := Try.isAgg3
  z3 := Try.sizeOf3
  v3 := Try.zeroValue3
  t4 := Try.underlying4
  a4 := Try.isAgg4
  z4 := Try.sizeOf4
  v4 := Try.zeroValue4
  t9 := Try.underlying9
  a9 := Try.isAgg9
  z9 := Try.sizeOf9
  v9 := Try.zeroValue9
  t20 := Try.underlying20
  a20 := Try.isAgg20
  z20 := Try.sizeOf20
  v20 := Try.zeroValue20
  t37 := Try.underlying134
  a37 := Try.isAgg134
  z37 := Try.sizeOf134
  v37 := Try.zeroValue134
  t70 := Try.underlying143
  a70 := Try.isAgg143
  z70 := Try.sizeOf143
  v70 := Try.zeroValue143
  t72 := Try.underlying145
  a72 := Try.isAgg145
  z72 := Try.sizeOf145
  v72 := Try.zeroValue145
  t164 := Try.underlying157
  a164 := Try.isAgg157
  z164 := Try.sizeOf157
  v164 := Try.zeroValue157 }
theorem Try.Builder_Extra_165 : Builder.Extra Try.prog Try.lays165_ren := {
  sizeBuilder := by kernel_rfl
  liesBuilder := by kernel_rfl
  t5 := Try.underlying5
  a5 := Try.isAgg5
  z5 := Try.sizeOf5
  v5 := Try.zeroValue5
  infoByte := by kernel_rfl
  cellsByte := by kernel_rfl
  sizeByte := by kernel_rfl
  neB5 := by decide }
open Go.RowKit in
/-- (*strings.Builder).Grow AT A BUILDER THAT HAS NOT BEEN WRITTEN ('var b strings.Builder; b.Grow(n)'): "Grow grows b's capacity, if necessary, to guarantee space for another n bytes.": it holds no byte behind it as before it. (LAID: no walk: one application.) -/
theorem Try.Builder_Grow_fresh (B b n : Nat) (w : World) (hB : B ≤ b) (hbk : w.heap[b]? = some (.cells #[.pointer none, .slice none 0 0] 145 (0, 0))) (hBw : B ≤ w.heap.size) (hn : n ≤ 281474976710656) :
    Calls Try.prog 100 #[.pointer (some ⟨b, 0, none⟩), .int .i64 n] w fun e w' => e = .returned (.tuple #[]) ∧ (Lib.BuilderAt 145 5 B b (.pointer (some ⟨b, 0, none⟩)) [] w' ∧ Below B w w') := Any.Builder_Grow_fresh Try.lays165 Try.Builder_Extra_165 B b n w hB hbk hBw hn
def Try.lays128_ren : Go.Shelf.Ren := ⟨fun | 128 => 88 | n => n, fun | 51 => 111 | 3 => 3 | 4 => 4 | 46 => 124 | 5 => 5 | 9 => 9 | n => n, fun | n => n⟩
theorem Try.lays128 : Go.Proofs.Lays.n128 Try.prog Try.lays128_ren := {
  mixed := by kernel_rfl
  f128 := Try.func88.trans (congrArg some (by kernel_rfl))
  t3 := Try.underlying3
  a3 := Try.isAgg3
  z3 := Try.sizeOf3
  v3 := Try.zeroValue3
  t4 := Try.underlying4
  a4 := Try.isAgg4
  z4 := Try.sizeOf4
  v4 := Try.zeroValue4
  t5 := Try.underlying5
  a5 := Try.isAgg5
  z5 := Try.sizeOf5
  v5 := Try.zeroValue5
  t9 := Try.underlying9
  a9 := Try.isAgg9
  z9 := Try.sizeOf9
  v9 := Try.zeroValue9
  t46 := Try.underlying124
  a46 := Try.isAgg124
  z46 := Try.sizeOf124
  v46 := Try.zeroValue124
  t51 := Try.underlying111
  a51 := Try.isAgg111
  z51 := Try.sizeOf111
  v51 := Try.zeroValue111 }
/-- bits.Len32: "Len32 returns the minimum number of bits required to represent x; the result is 0 for x == 0.": IT RETURNS 'Lib.bitLen x'; the world is as it was. ('h0', 'h1': x is a uint32.) (LAID: no walk: one application.) -/
theorem Try.bits_Len32 (x : Int) (w : World) (h0 : 0 ≤ x) (h1 : x ≤ 4294967295) :
    Calls Try.prog 88 #[.int .u32 x] w fun e w' => e = .returned (.int .i64 (Lib.bitLen x.toNat)) ∧ w' = w := Any.bits_Len32 Try.lays128 x w h0 h1
def Try.lays133_ren : Go.Shelf.Ren := ⟨fun | 133 => 103 | 128 => 88 | n => n, fun | 51 => 111 | 3 => 3 | 4 => 4 | 46 => 124 | 5 => 5 | 9 => 9 | n => n, fun | n => n⟩
theorem Try.lays133 : Go.Proofs.Lays.n133 Try.prog Try.lays133_ren := {
  mixed := by kernel_rfl
  f128 := Try.func88.trans (congrArg some (by kernel_rfl))
  f133 := Try.func103.trans (congrArg some (by kernel_rfl))
  t3 := Try.underlying3
  a3 := Try.isAgg3
  z3 := Try.sizeOf3
  v3 := Try.zeroValue3
  t4 := Try.underlying4
  a4 := Try.isAgg4
  z4 := Try.sizeOf4
  v4 := Try.zeroValue4
  t5 := Try.underlying5
  a5 := Try.isAgg5
  z5 := Try.sizeOf5
  v5 := Try.zeroValue5
  t9 := Try.underlying9
  a9 := Try.isAgg9
  z9 := Try.sizeOf9
  v9 := Try.zeroValue9
  t46 := Try.underlying124
  a46 := Try.isAgg124
  z46 := Try.sizeOf124
  v46 := Try.zeroValue124
  t51 := Try.underlying111
  a51 := Try.isAgg111
  z51 := Try.sizeOf111
  v51 := Try.zeroValue111 }
/-- bits.LeadingZeros32: "LeadingZeros32 returns the number of leading zero bits in x; the result is 32 for x == 0.": IT RETURNS '32 - Lib.bitLen x'; the world is as it was. ITS CALLEE bits.Len32 IS MET BY ITS OWN CONTRACT OFF THE SHELF (lay that first): entered in place it sends the kernel out of memory. (LAID: no walk: one application.) -/
theorem Try.bits_LeadingZeros32 (x : Int) (w : World) (h0 : 0 ≤ x) (h1 : x ≤ 4294967295) :
    Calls Try.prog 103 #[.int .u32 x] w fun e w' => e = .returned (.int .i64 (32 - (Lib.bitLen x.toNat : Int))) ∧ w' = w := Any.bits_LeadingZeros32 Try.lays133 x w h0 h1
def Try.laysNm237_ren : Go.Shelf.Ren := ⟨fun | 37 => 79 | n => n, fun | 3 => 3 | 4 => 4 | n => n, fun | n => n⟩
theorem Try.laysNm237 : Go.Proofs.Lays2.n37 Try.prog Try.laysNm237_ren := {
  mixed := by kernel_rfl
  f37 := Try.func79.trans (congrArg some (by kernel_rfl))
  t3 := Try.underlying3
  a3 := Try.isAgg3
  z3 := Try.sizeOf3
  v3 := Try.zeroValue3
  t4 := Try.underlying4
  a4 := Try.isAgg4
  z4 := Try.sizeOf4
  v4 := Try.zeroValue4 }
open Go.RowKit Go.Lib in
/-- cmp.isNaN[int]: 'x != x': false. (LAID: no walk: one application.) -/
theorem Try.cmp_isNaN_int2 (x : Int) (w : World) :
    Calls Try.prog 79 #[.int .i64 x] w fun e w' => e = .returned (.bool false) ∧ w' = w := Any.cmp_isNaN_int2 Try.laysNm237 x w
end Go.Proofs
namespace Go.Proofs.Ytamcibmjpmibdaa
open Go.RowKit Go.Shelf

def renW : Go.Shelf.Ren := ⟨fun | 166 => 101 | 240 => 109 | 276 => 111 | n => n, fun | 70 => 143 | 72 => 145 | 37 => 134 | 164 => 157 | 75 => 148 | 80 => 151 | 5 => 5 | n => n, fun | n => n⟩
theorem laysW : Go.Proofs.Lays.n166 Try.prog renW := {
  mixed := by kernel_rfl
  f166 := Try.func101.trans (congrArg some (by kernel_rfl))
  f240 := Try.func109.trans (congrArg some (by kernel_rfl))
  f276 := Try.func111.trans (congrArg some (by kernel_rfl))
  t0 := Try.underlying0
  a0 := Try.isAgg0
  z0 := Try.sizeOf0
  v0 := Try.zeroValue0
  t3 := Try.underlying3
  a3 := Try.isAgg3
  z3 := Try.sizeOf3
  v3 := Try.zeroValue3
  t4 := Try.underlying4
  a4 := Try.isAgg4
  z4 := Try.sizeOf4
  v4 := Try.zeroValue4
  t9 := Try.underlying9
  a9 := Try.isAgg9
  z9 := Try.sizeOf9
  v9 := Try.zeroValue9
  t20 := Try.underlying20
  a20 := Try.isAgg20
  z20 := Try.sizeOf20
  v20 := Try.zeroValue20
  t37 := Try.underlying134
  a37 := Try.isAgg134
  z37 := Try.sizeOf134
  v37 := Try.zeroValue134
  t70 := Try.underlying143
  a70 := Try.isAgg143
  z70 := Try.sizeOf143
  v70 := Try.zeroValue143
  t72 := Try.underlying145
  a72 := Try.isAgg145
  z72 := Try.sizeOf145
  v72 := Try.zeroValue145
  t75 := Try.underlying148
  a75 := Try.isAgg148
  z75 := Try.sizeOf148
  v75 := Try.zeroValue148
  t164 := Try.underlying157
  a164 := Try.isAgg157
  z164 := Try.sizeOf157
  v164 := Try.zeroValue157 }
theorem extraW : Builder.Extra Try.prog renW := {
  sizeBuilder := by kernel_rfl
  liesBuilder := by kernel_rfl
  t5 := Try.underlying5
  a5 := Try.isAgg5
  z5 := Try.sizeOf5
  v5 := Try.zeroValue5
  infoByte := by kernel_rfl
  cellsByte := by kernel_rfl
  sizeByte := by kernel_rfl
  neB5 := by decide }
theorem writeString_any (B b : Nat) (bs : List Value) (s : ByteArray) (w : World) (h : Lib.IsBuilder 145 5 B b bs w) (hlen : bs.length + s.size ≤ 140737488355328) (hBw : B ≤ w.heap.size) :
    Calls Try.prog 101 #[.pointer (some ⟨b, 0, none⟩), .string s] w fun e w' => e = .returned (.tuple #[.int .i64 s.size, .nilIface]) ∧ (Lib.BuilderAt 145 5 B b (.pointer (some ⟨b, 0, none⟩)) (bs ++ Lib.strCells s) w' ∧ Below B w w') := Any.Builder_WriteString laysW extraW B b bs s w h hlen hBw
end Go.Proofs.Ytamcibmjpmibdaa
namespace Go.Proofs.Ytamcibmjpmibdaa
open Go.RowKit

theorem own_form {w : World} {base : Nat} {e : TypeId} {size n : Nat} {v : Value} {xs : List Value} (h : w.ownsRow base e size v n xs) : ∃ A c, v = .slice A n c := by
  rcases h.2 with ⟨rfl, hn⟩ | ⟨g, cap, cur, rfl, _⟩
  · exact ⟨none, 0, by rw [hn]⟩
  · exact ⟨_, _, rfl⟩
theorem own_le {w : World} {base : Nat} {e : TypeId} {n : Nat} {v : Value} {xs : List Value} (h : w.ownsRow base e 1 v n xs) : n ≤ 9223372036854775807 := by
  rcases h.2 with ⟨_, hn⟩ | ⟨g, cap, cur, _, _, _, h1, h2, _⟩
  · omega
  · unfold maxLen at h2; omega
theorem Es.of_own {w : World} {base : Nat} {e : TypeId} {n : Nat} {v : Value} {L : List Nat} (h : w.ownsRow base e 1 v n (U32 L)) (hb : ∀ e ∈ L, e < 4294967296) : ∃ A c, v = .slice A n c ∧ Es w w.heap.size A n L := by
  obtain ⟨A, c, rfl⟩ := own_form h
  refine ⟨A, c, rfl, Reads.of_own h, ⟨?_, own_le h⟩, hb⟩
  have := h.1
  simpa [U32_length] using this.symm
theorem Xs.of_own {w : World} {base : Nat} {e : TypeId} {n : Nat} {v : Value} {L : List Int} (h : w.ownsRow base e 1 v n (I64 L)) (hb : ∀ x ∈ L, -9223372036854775808 ≤ x ∧ x ≤ 9223372036854775807) : ∃ A c, v = .slice A n c ∧ Xs w w.heap.size A n L := by
  obtain ⟨A, c, rfl⟩ := own_form h
  refine ⟨A, c, rfl, Reads.of_own h, ⟨?_, own_le h⟩, hb⟩
  have := h.1
  simpa [I64_length] using this.symm
theorem own_drewN {w : World} {base : Nat} {e : TypeId} {size n : Nat} {v : Value} {xs : List Value} (h : w.ownsRow base e size v n xs) (k : Nat) : (w.drewN k).ownsRow base e size v n xs := h
theorem own_empty (w : World) (e : TypeId) : (w.alloc (.cells #[] e)).ownsRow w.heap.size e 1 (.slice (some ⟨w.heap.size, 0, none⟩) 0 0) 0 [] :=
  ⟨rfl, .inr ⟨w.heap.size, 0, #[], rfl, Nat.le_refl _, heap_alloc_new w _, Nat.le_refl _, Nat.zero_le _, rfl, rfl⟩⟩
theorem one_U32 (l : List Nat) : ∀ u ∈ U32 l, u.oneCell' = true := by
  intro v hv; simp only [U32, List.mem_map] at hv; obtain ⟨_, _, rfl⟩ := hv; rfl
theorem one_I64 (l : List Int) : ∀ u ∈ I64 l, u.oneCell' = true := by
  intro v hv; simp only [I64, List.mem_map] at hv; obtain ⟨_, _, rfl⟩ := hv; rfl
theorem own_nil (w : World) (base : Nat) (e : TypeId) : w.ownsRow base e 1 (.slice none 0 0) 0 [] := ⟨rfl, .inl ⟨rfl, rfl⟩⟩
/-- A block of another element type keeps its cells over an append. -/
theorem Blk.appended {w w' : World} {g : Nat} {t e : TypeId} {cs : Array Value} {base size n : Nat} {v : Value} {xs : List Value} (h : Blk w g t cs) (hown : w.ownsRow base e size v n xs) (hg : w.grownBy w' v.ownBlock) (hne : e ≠ t) : Blk w' g t cs :=
  h.grown hg (fun he => own_blk_ne hown h hne he.symm)
theorem GB.appended {w w' : World} {g : Nat} {t e : TypeId} {x y : Value} {base size n : Nat} {v : Value} {xs : List Value} (h : GB w g t x y) (hown : w.ownsRow base e size v n xs) (hg : w.grownBy w' v.ownBlock) (hne : e ≠ t) : GB w' g t x y := Blk.appended h.blk hown hg hne
/-- A store into a block of another element type keeps an owned row. -/
theorem own_far {w : World} {g : Nat} {t e : TypeId} {cs : Array Value} {base size n : Nat} {v : Value} {xs : List Value} (h : w.ownsRow base e size v n xs) (hb : Blk w g t cs) (hne : e ≠ t) (i : Nat) (u : Value) : (w.setCell ⟨g, i, none⟩ u).ownsRow base e size v n xs := by
  refine ⟨h.1, ?_⟩
  rcases h.2 with h0 | ⟨g', cap, cur, rfl, h1, h2, h3⟩
  · exact .inl h0
  · have hgg : g' ≠ g := fun he => by
      subst he
      exact Blk.ne_ (t := e) h2 hb hne rfl
    exact .inr ⟨g', cap, cur, rfl, h1, (Below.heap_setCell w ⟨g, i, none⟩ u g' hgg).trans h2, h3⟩
theorem own_below {w w' : World} {e : TypeId} {base size n : Nat} {v : Value} {xs : List Value} (h : w.ownsRow base e size v n xs) (hb : Below w.heap.size w w') : w'.ownsRow base e size v n xs := by
  refine ⟨h.1, ?_⟩
  rcases h.2 with h0 | ⟨g', cap, cur, rfl, h1, h2, h3⟩
  · exact .inl h0
  · have hlt : g' < w.heap.size := Blk.lt' h2
    exact .inr ⟨g', cap, cur, rfl, h1, (hb.block g' hlt).trans h2, h3⟩
/-- A row is kept where only a block of another element type has changed. -/
theorem own_grown_ne {w w' : World} {g : Nat} {t e : TypeId} {cs : Array Value} {base size n : Nat} {v : Value} {xs : List Value} (h : w.ownsRow base e size v n xs) (hb : Blk w g t cs) (hg : w.grownBy w' (some g)) (hne : e ≠ t) : w'.ownsRow base e size v n xs := by
  refine ⟨h.1, ?_⟩
  rcases h.2 with h0 | ⟨g', cap, cur, rfl, h1, h2, h3⟩
  · exact .inl h0
  · have hgg : g' ≠ g := fun he => by
      subst he
      exact Blk.ne_ (t := e) h2 hb hne rfl
    exact .inr ⟨g', cap, cur, rfl, h1, (hg.block g' (Blk.lt' h2) (by simp; exact hgg)).trans h2, h3⟩
theorem own_base {w : World} {base : Nat} {e : TypeId} {size n : Nat} {v : Value} {xs : List Value} (h : w.ownsRow base e size v n xs) : ∀ k, v.ownBlock = some k → base ≤ k := by
  intro k hk
  rcases h.2 with ⟨rfl, _⟩ | ⟨g, cap, cur, rfl, hb, _⟩
  · simp [Value.ownBlock] at hk
  · simp [Value.ownBlock] at hk; omega
theorem Below.appended {B base : Nat} {a w w' : World} {e : TypeId} {size n : Nat} {v : Value} {xs : List Value} (h : Below B a w) (hown : w.ownsRow base e size v n xs) (hg : w.grownBy w' v.ownBlock) (hB : B ≤ w.heap.size) (hbase : B ≤ base) : Below B a w' :=
  h.grown hg hB (fun k hk => by have := own_base hown k hk; omega)

/-- A row keeps what it holds where only another row, of another element type, has grown. -/
theorem own_grown_own {w w' : World} {base base' : Nat} {e e' : TypeId} {size size' n n' : Nat} {v v' : Value} {xs xs' : List Value} (h : w.ownsRow base e size v n xs) (h' : w.ownsRow base' e' size' v' n' xs') (hne : e ≠ e') (hg : w.grownBy w' v'.ownBlock) : w'.ownsRow base e size v n xs := by
  refine ⟨h.1, ?_⟩
  rcases h.2 with h0 | ⟨g, cap, cur, rfl, h1, h2, h3⟩
  · exact .inl h0
  · refine .inr ⟨g, cap, cur, rfl, h1, ?_, h3⟩
    refine (hg.block g (Blk.lt' h2) ?_).trans h2
    rcases h'.2 with ⟨rfl, _⟩ | ⟨g', cap', cur', rfl, _, h2', _⟩
    · simp [Value.ownBlock]
    · simp only [Value.ownBlock]
      intro he
      injection he with he
      subst he
      rw [h2] at h2'
      injection h2' with h2'
      injection h2' with _ ht
      exact hne ht

end Go.Proofs.Ytamcibmjpmibdaa
namespace Go.Proofs.Ytamcibmjpmibdaa

/-- The value of a list of digits in base b. -/
def valB (b : Nat) : List Nat → Nat
  | [] => 0
  | d :: l => d + b * valB b l
/-- Digits below b, the last one not 0; they are worth n. -/
def Nrm (b : Nat) (l : List Nat) (n : Nat) : Prop := valB b l = n ∧ (∀ d ∈ l, d < b) ∧ (l = [] ∨ nth l (l.length - 1) ≠ 0)

theorem valB_append (b : Nat) (l m : List Nat) : valB b (l ++ m) = valB b l + b ^ l.length * valB b m := by
  induction l with
  | nil => simp [valB]
  | cons d l ih => simp only [List.cons_append, valB, ih, List.length_cons, Nat.pow_succ]; rw [Nat.mul_add, Nat.add_assoc, ← Nat.mul_assoc, Nat.mul_comm b (b ^ l.length)]
theorem valB_single (b d : Nat) : valB b [d] = d := by simp [valB]
theorem valB_lt {b : Nat} {l : List Nat} (h : ∀ d ∈ l, d < b) : valB b l < b ^ l.length := by
  induction l with
  | nil => simp [valB]
  | cons d l ih =>
    have h1 := ih (fun x hx => h x (by simp [hx]))
    have h2 := h d (by simp)
    simp only [valB, List.length_cons, Nat.pow_succ]
    have h3 : b * (valB b l + 1) ≤ b * b ^ l.length := Nat.mul_le_mul_left b h1
    rw [Nat.mul_comm (b ^ l.length) b]
    rw [Nat.mul_add] at h3
    omega
theorem valB_take {b : Nat} {l : List Nat} {k : Nat} (h : k < l.length) : valB b (l.take (k + 1)) = valB b (l.take k) + b ^ k * nth l k := by
  rw [List.take_succ_eq_append_getElem h, valB_append, valB_single, nth_eq h, List.length_take, Nat.min_eq_left (by omega)]
theorem valB_split (b : Nat) (l : List Nat) (k : Nat) (h : k ≤ l.length) : valB b l = valB b (l.take k) + b ^ k * valB b (l.drop k) := by
  have h1 := valB_append b (l.take k) (l.drop k)
  rw [List.take_append_drop, List.length_take, Nat.min_eq_left h] at h1
  exact h1
theorem valB_drop {b : Nat} {l : List Nat} {k : Nat} (h : k < l.length) : valB b (l.drop k) = nth l k + b * valB b (l.drop (k + 1)) := by
  rw [List.drop_eq_getElem_cons h, valB, nth_eq h]
theorem valB_zero (b n : Nat) : valB b (List.replicate n 0) = 0 := by
  induction n with
  | zero => rfl
  | succ n ih => simp [List.replicate_succ, valB, ih]
theorem valB_set {b : Nat} {l : List Nat} {k x : Nat} (h : k < l.length) : valB b (l.set k x) + b ^ k * nth l k = valB b l + b ^ k * x := by
  have h1 := valB_split b (l.set k x) k (by simp; omega)
  have h2 := valB_split b l k (by omega)
  have h3 : (l.set k x).take k = l.take k := by rw [List.take_set]; exact List.set_eq_of_length_le (by simp; omega)
  have h4 : valB b ((l.set k x).drop k) = x + b * valB b (l.drop (k + 1)) := by
    rw [valB_drop (by simp; exact h), nth_eq (by simp; exact h)]
    simp [List.drop_set]
  rw [h3, h4, Nat.mul_add] at h1
  rw [valB_drop h, Nat.mul_add] at h2
  omega
theorem valB_all_zero {b : Nat} {l : List Nat} (h : ∀ k, k < l.length → nth l k = 0) : valB b l = 0 := by
  induction l with
  | nil => rfl
  | cons d l ih =>
    have h0 := h 0 (by simp)
    simp only [nth, List.getD, List.getElem?_cons_zero, Option.getD_some] at h0
    rw [valB, h0, ih (fun k hk => ?_)]
    · simp
    · have := h (k + 1) (by simp; omega)
      simpa [nth, List.getD] using this
theorem nth_take {l : List Nat} {k j : Nat} (h : j < k) : nth (l.take k) j = nth l j := by
  simp [nth, List.getD, h]
/-- Taking off zeros at the end changes nothing. -/
theorem valB_trim {b : Nat} {l : List Nat} {k : Nat} (hk : k ≤ l.length) (h : ∀ j, k ≤ j → j < l.length → nth l j = 0) : valB b (l.take k) = valB b l := by
  rw [valB_split b l k hk, valB_all_zero (l := l.drop k) (fun j hj => ?_)]
  · simp
  · rw [List.length_drop] at hj
    have := h (k + j) (by omega) (by omega)
    simpa [nth, List.getD, List.getElem?_drop] using this
theorem Nrm.nil (b : Nat) : Nrm b [] 0 := ⟨rfl, by simp, .inl rfl⟩
theorem Nrm.pos {b : Nat} {l : List Nat} {n : Nat} (h : Nrm b l n) (hl : 0 < l.length) : b ^ (l.length - 1) ≤ n := by
  have h1 : nth l (l.length - 1) ≠ 0 := by
    rcases h.2.2 with h0 | h0
    · subst h0; simp at hl
    · exact h0
  have h2 := valB_take (b := b) (l := l) (k := l.length - 1) (by omega)
  rw [Nat.sub_add_cancel hl, List.take_length, h.1] at h2
  rw [h2]
  have : b ^ (l.length - 1) * 1 ≤ b ^ (l.length - 1) * nth l (l.length - 1) := Nat.mul_le_mul_left _ (by omega)
  omega
theorem Nrm.lt {b : Nat} {l : List Nat} {n : Nat} (h : Nrm b l n) : n < b ^ l.length := by
  rw [← h.1]; exact valB_lt h.2.1
theorem Nrm.zero_iff {b : Nat} {l : List Nat} {n : Nat} (h : Nrm b l n) (hb : 0 < b) : l.length = 0 ↔ n = 0 := by
  constructor
  · intro h0; have := h.lt; rw [h0] at this; simp at this; exact this
  · intro h0
    rcases Nat.eq_zero_or_pos l.length with h1 | h1
    · exact h1
    · have h2 := h.pos h1
      have h3 : 0 < b ^ (l.length - 1) := Nat.pow_pos hb
      omega
theorem Nrm.len_lt {b : Nat} {l m : List Nat} {x y : Nat} (h : Nrm b l x) (k : Nrm b m y) (hb : 0 < b) (hlt : l.length < m.length) : x < y := by
  have h1 := h.lt
  have h2 := k.pos (by omega)
  have h3 : b ^ l.length ≤ b ^ (m.length - 1) := Nat.pow_le_pow_right hb (by omega)
  omega
/-- Two lists of one length that agree above k, compared at k. -/
theorem val_cmp {b : Nat} {l m : List Nat} {k : Nat} (hl : ∀ d ∈ l, d < b) (hlen : l.length = m.length) (hk : k < l.length)
    (hd : l.drop (k + 1) = m.drop (k + 1)) (hlt : nth l k < nth m k) : valB b l < valB b m := by
  rw [valB_split b l (k + 1) (by omega), valB_split b m (k + 1) (by omega), hd, valB_take hk, valB_take (by omega)]
  have h1 : valB b (l.take k) < b ^ k := by
    have := valB_lt (b := b) (l := l.take k) (fun d hd => hl d (List.mem_of_mem_take hd))
    rwa [List.length_take, Nat.min_eq_left (by omega)] at this
  have h2 : b ^ k * (nth l k + 1) ≤ b ^ k * nth m k := Nat.mul_le_mul_left _ hlt
  rw [Nat.mul_add] at h2
  omega
theorem Nrm.mk_trim {b : Nat} {l : List Nat} {k : Nat} (hl : ∀ d ∈ l, d < b) (hk : k ≤ l.length) (h : ∀ j, k ≤ j → j < l.length → nth l j = 0) (hlast : k = 0 ∨ nth l (k - 1) ≠ 0) : Nrm b (l.take k) (valB b l) := by
  refine ⟨valB_trim hk h, fun d hd => hl d (List.mem_of_mem_take hd), ?_⟩
  rcases hlast with h0 | h0
  · left; subst h0; simp
  · by_cases hk0 : k = 0
    · left; subst hk0; simp
    · right
      rw [List.length_take, Nat.min_eq_left hk, nth_take (by omega)]
      exact h0
theorem Nrm.unique {b : Nat} {l m : List Nat} {x : Nat} (h : Nrm b l x) (k : Nrm b m x) (hb : 0 < b) : l = m := by
  have hlen : l.length = m.length := by
    rcases Nat.lt_trichotomy l.length m.length with h1 | h1 | h1
    · have := h.len_lt k hb h1; omega
    · exact h1
    · have := k.len_lt h hb h1; omega
  have : ∀ (l m : List Nat), l.length = m.length → (∀ d ∈ l, d < b) → (∀ d ∈ m, d < b) → valB b l = valB b m → l = m := by
    intro l
    induction l with
    | nil => intro m h1 _ _ _; exact (List.eq_nil_of_length_eq_zero h1.symm).symm
    | cons d l ih =>
      intro m h1 h2 h3 h4
      cases m with
      | nil => simp at h1
      | cons e m =>
        simp only [valB] at h4
        have hd := h2 d (by simp)
        have he := h3 e (by simp)
        have h5 : d = e := by
          have : (d + b * valB b l) % b = (e + b * valB b m) % b := by rw [h4]
          simpa [Nat.add_mul_mod_self_left, Nat.mod_eq_of_lt hd, Nat.mod_eq_of_lt he] using this
        subst h5
        have h6 : valB b l = valB b m := Nat.eq_of_mul_eq_mul_left hb (by omega)
        rw [ih m (by simpa using h1) (fun x hx => h2 x (by simp [hx])) (fun x hx => h3 x (by simp [hx])) h6]
  exact this l m hlen h.2.1 k.2.1 (h.1.trans k.1.symm)

end Go.Proofs.Ytamcibmjpmibdaa
