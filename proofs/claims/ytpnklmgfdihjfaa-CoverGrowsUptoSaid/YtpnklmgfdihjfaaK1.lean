/-
Plain facts on numbers, bits and lists that the walks use (no program in sight).
Words for memory: a slice that reads as a list, a block that is known whole, appends onto a row of the call's own, frames (the guide's own small lemmas, laid for this seat).
Arguments of a law, opened to what the walks ask.
DERIVED: THE SHELF's CONTRACTS AT THIS DUMP, IN PLAIN WORDS (tools/lay-plain.mjs out of 'TryShelf.lean', which tools/lay-shelf.mjs wrote): THE SAME DECLARATIONS UNDER THE SAME NAMES: 'import', 'namespace', 'open', 'def', 'theorem' AND NOTHING ELSE: no command of the shelf's: FOR A HAND-IN. Each laying: the table of numbers ('.._ren') and one theorem, a field a fact of the dump's own or the kernel's comparison; each contract: ONE APPLICATION.
(*strings.Builder).WriteString at this dump: the shelf's contract, laid by one application (the kit's printer left this one out).
Rows of the call's own: small laws (no numbers of a seat).
Plain facts on numbers as lists of digits, least significant first (no program in sight).
Contracts of package nat: trim, Of, cmp, Clone, Norm, Cmp.
Contracts of nat.Add, Sub.
Contracts of nat.divDigit, shiftLeft, shiftRight.
-/
import Derived.WalkKit
import Derived.Laws.BitsAllLaws
import Derived.Test.YtpnklmgfdihjfaaRows
import Derived.WalkSpells
import Derived.WalkLawsBesides
import Derived.Lib.Hide
import Derived.Below
import Derived.Laws.OwnMore
import Derived.Deep.AppendLies
import Derived.Deep.Draws
import Derived.Laws.Rows
import Derived.Maps.AppendAt
import Derived.RegionTactic
import Derived.OwnWalk
import Derived.Deep.OwnRows
import Derived.Laws.AppendOwn
import Derived.Laws.MakeOwn
import Derived.Laws.Entries
import Derived.ChangeSame
import Derived.Deep.QuietTactic
import Derived.BigQuiet
import Derived.Deep.RegionHeld3
import Derived.Deep.DrawnRows
import Derived.Deep.DeepCutAuto
import Derived.Deep.MidRow
import Derived.ProofKit
import Derived.OpenShut
import Derived.ShutString
import Derived.ChangeOld
import Derived.Lib.SmallJoins
import Derived.Shelf.Small.Bits
import Derived.Shelf.Strconv.Itoa0
import Derived.Ground.Names2Prog
import Derived.Shelf.Slices.SearchI
import Derived.Test.YtpnklmgfdihjfaaProg
import Derived.IntWalk
namespace Go.Proofs.Ytpnklmgfdihjfaa

theorem two_pow_le {n m : Nat} (h : n ≤ m) : (2:Nat) ^ n ≤ 2 ^ m := Nat.pow_le_pow_right (by omega) h
theorem cast_pow2 (n : Nat) : ((2 ^ n : Nat) : Int) = (2:Int) ^ n := by simp
theorem pow2_pos (n : Nat) : 0 < 2 ^ n := Nat.pos_of_ne_zero (by simp)
theorem below_val (n : Nat) (hn : n ≤ 32) : (IntKind.u64.wrap (IntKind.u64.wrap ((2:Int) ^ n) - 1)) % 4294967296 = ((2 ^ n - 1 : Nat) : Int) := by
  have h1 : 2 ^ n ≤ 2 ^ 32 := two_pow_le hn
  have h2 := pow2_pos n
  rw [← cast_pow2]
  generalize hx : 2 ^ n = x at *
  simp only [IntKind.wrap, IntKind.bits, IntKind.signed]
  omega
theorem testBit_big {s v : Nat} (hs : s < 2 ^ 32) (hv : 32 ≤ v) : s.testBit v = false :=
  Nat.testBit_lt_two_pow (Nat.lt_of_lt_of_le hs (two_pow_le hv))
/-- The error number of a graph. -/
def checkCode (n : Int) (es : List Nat) : Int :=
  if n < 0 ∨ 32 < n then 3 else if 64 < es.length then 12 else if es.all (fun e => decide (e < 2 ^ n.toNat)) then 0 else 1
theorem checkCode_zero {n : Int} {es : List Nat} (h : checkCode n es = 0) : 0 ≤ n ∧ n ≤ 32 ∧ es.length ≤ 64 ∧ ∀ e ∈ es, e < 2 ^ n.toNat := by
  unfold checkCode at h
  split at h
  · omega
  · split at h
    · omega
    · split at h
      · rename_i h3
        refine ⟨by omega, by omega, by omega, fun e he => ?_⟩
        simpa using List.all_eq_true.1 h3 e he
      · omega

/-- Element k of a list of numbers (0 outside). -/
def nth (es : List Nat) (k : Nat) : Nat := es.getD k 0
def inth (es : List Int) (k : Nat) : Int := es.getD k 0
theorem nth_eq {es : List Nat} {k : Nat} (h : k < es.length) : nth es k = es[k] := by simp [nth, List.getD, h]
theorem inth_eq {es : List Int} {k : Nat} (h : k < es.length) : inth es k = es[k] := by simp [inth, List.getD, h]
theorem nth_mem {es : List Nat} {k : Nat} (h : k < es.length) : nth es k ∈ es := by rw [nth_eq h]; exact List.getElem_mem h
theorem inth_mem {es : List Int} {k : Nat} (h : k < es.length) : inth es k ∈ es := by rw [inth_eq h]; exact List.getElem_mem h
def U32 (es : List Nat) : List Value := es.map fun (e : Nat) => Value.int .u32 (e : Int)
theorem U32_length (es : List Nat) : (U32 es).length = es.length := by simp [U32]
theorem U32_get {es : List Nat} {k : Nat} {u : Value} (h : (U32 es)[k]? = some u) : u = .int .u32 ((nth es k : Nat) : Int) := by
  simp only [U32, List.getElem?_map, Option.map_eq_some_iff] at h
  obtain ⟨e, he, rfl⟩ := h
  simp [nth, List.getD, he]
def I64 (xs : List Int) : List Value := xs.map fun e => Value.int .i64 e
theorem I64_length (es : List Int) : (I64 es).length = es.length := by simp [I64]
theorem I64_get {es : List Int} {k : Nat} {u : Value} (h : (I64 es)[k]? = some u) : u = .int .i64 (inth es k) := by
  simp only [I64, List.getElem?_map, Option.map_eq_some_iff] at h
  obtain ⟨e, he, rfl⟩ := h
  simp [inth, List.getD, he]
theorem all_take_succ (p : Nat → Bool) (l : List Nat) (k : Nat) (h : k < l.length) : (l.take (k + 1)).all p = ((l.take k).all p && p (nth l k)) := by
  rw [List.take_succ_eq_append_getElem h, List.all_append, nth_eq h]; simp

/-- a without the elements of b (32 bits). -/
def andn (a b : Nat) : Nat := a &&& (4294967295 - b)
theorem testBit_andn {a b i : Nat} (hb : b < 2 ^ 32) (ha : a < 2 ^ 32) : (andn a b).testBit i = (a.testBit i && !b.testBit i) := by
  unfold andn
  rw [Nat.testBit_and, show 4294967295 - b = 2 ^ 32 - (b + 1) from by omega, Nat.testBit_two_pow_sub_succ hb]
  by_cases h : i < 32
  · simp [h]
  · rw [testBit_big ha (by omega)]; simp
theorem bits_andNot (a b : Nat) (ha : a < 2 ^ 32) (hb : b < 2 ^ 32) : bits .andNot .u32 (a : Int) (b : Int) = ((andn a b : Nat) : Int) := u32_andNot_nat a b ha hb
theorem bits_and (a b : Nat) (ha : a < 2 ^ 32) (hb : b < 2 ^ 32) : bits .and .u32 (a : Int) (b : Int) = ((a &&& b : Nat) : Int) := u32_and_nat a b ha hb
theorem bits_or (a b : Nat) (ha : a < 2 ^ 32) (hb : b < 2 ^ 32) : bits .or .u32 (a : Int) (b : Int) = ((a ||| b : Nat) : Int) := u32_or_nat a b ha hb
theorem lt_pow_iff {e n : Nat} (he : e < 2 ^ 32) : e < 2 ^ n ↔ ∀ i, n ≤ i → i < 32 → e.testBit i = false := by
  constructor
  · intro h i hi _
    exact Nat.testBit_lt_two_pow (Nat.lt_of_lt_of_le h (two_pow_le hi))
  · intro h
    apply Nat.lt_pow_two_of_testBit
    intro i hi
    by_cases h32 : i < 32
    · exact h i hi h32
    · exact testBit_big he (by omega)
theorem andn_below {e n : Nat} (hn : n ≤ 32) (he : e < 2 ^ 32) : andn e (2 ^ n - 1) = 0 ↔ e < 2 ^ n := by
  have h2 := pow2_pos n
  have h1 : 2 ^ n ≤ 2 ^ 32 := two_pow_le hn
  rw [lt_pow_iff he]
  constructor
  · intro h i hi h32
    have ht := testBit_andn (i := i) (show 2 ^ n - 1 < 2 ^ 32 by omega) he
    rw [h, Nat.testBit_two_pow_sub_one] at ht
    simpa [show ¬ i < n by omega] using ht.symm
  · intro h
    apply Nat.eq_of_testBit_eq
    intro i
    rw [testBit_andn (by omega) he, Nat.testBit_two_pow_sub_one]
    by_cases hi : i < n
    · simp [hi]
    · by_cases h32 : i < 32
      · simp [h i (by omega) h32]
      · simp [testBit_big he (show 32 ≤ i by omega)]
theorem check_test {e n : Nat} (hn : n ≤ 32) (he : e < 2 ^ 32) : (bits .andNot .u32 (e : Int) ((2 ^ n - 1 : Nat) : Int) != 0) = !decide (e < 2 ^ n) := by
  have h2 := pow2_pos n
  have h1 : 2 ^ n ≤ 2 ^ 32 := two_pow_le hn
  rw [bits_andNot e _ he (by omega)]
  by_cases h : e < 2 ^ n
  · rw [(andn_below hn he).2 h]; simp [h]
  · have : andn e (2 ^ n - 1) ≠ 0 := fun hh => h ((andn_below hn he).1 hh)
    simp [h]; omega

theorem and_one_bit (e v : Nat) : (e / 2 ^ v) &&& 1 = if e.testBit v then 1 else 0 := by
  rw [nat_mask1, Nat.testBit_eq_decide_div_mod_eq]
  by_cases h : e / 2 ^ v % 2 = 1
  · simp [h]
  · simp [h]; omega
theorem bits_and_one (e v : Nat) (he : e < 2 ^ 32) : bits .and .u32 ((e : Int) / 2 ^ v) 1 = ((if e.testBit v then 1 else 0 : Nat) : Int) := by
  rw [← cast_pow2, show ((e : Int) / ((2 ^ v : Nat) : Int)) = ((e / 2 ^ v : Nat) : Int) from by simp, show (1 : Int) = ((1 : Nat) : Int) from rfl,
    bits_and _ _ (Nat.lt_of_le_of_lt (Nat.div_le_self _ _) he) (by omega), and_one_bit]
theorem shl_bit (b : Bool) (j : Nat) (hj : j < 32) : ((if b then 1 else 0 : Nat) : Int) * 2 ^ min j 32 % 4294967296 = ((if b then 2 ^ j else 0 : Nat) : Int) := by
  rw [Nat.min_eq_left (by omega), ← cast_pow2]
  have h1 : 2 ^ j < 2 ^ 32 := Nat.pow_lt_pow_right (by omega) hj
  cases b
  · simp
  · simp only [if_true]
    generalize 2 ^ j = x at *
    omega
theorem shl_mod (v : Nat) (hv : v < 32) : (2 : Int) ^ v % 4294967296 = ((2 ^ v : Nat) : Int) := by
  rw [← cast_pow2]
  have h1 : 2 ^ v < 2 ^ 32 := Nat.pow_lt_pow_right (by omega) hv
  generalize 2 ^ v = x at *
  omega
end Go.Proofs.Ytpnklmgfdihjfaa
namespace Go.Proofs.Ytpnklmgfdihjfaa
open Go.RowKit Go.WideShapes Go.ChangeShapes

theorem block_of_add (a : Addr) (n : Nat) : (a.add n).block = a.block := by unfold Addr.add; split <;> rfl
theorem add_of_add (a : Addr) (i j : Nat) : (a.add i).add j = a.add (i + j) := by
  unfold Addr.add
  by_cases hi : i = 0 <;> by_cases hj : j = 0 <;> simp [hi, hj, Nat.add_assoc]

def Reads (w : World) (B size : Nat) (A : Option Addr) (n : Nat) (xs : List Value) : Prop :=
  xs.length = n * size ∧ (0 < n → ∃ ad, A = some ad ∧ ad.block < B ∧ ∀ j u, xs[j]? = some u → w.cell? (ad.add j) = some u)

section
variable {w w' : World} {B B' size n : Nat} {A : Option Addr} {xs : List Value}
theorem Reads.none_ : Reads w B size A 0 [] := ⟨by simp, fun h => absurd h (by omega)⟩
theorem Reads.at_ {k : Nat} (h : Reads w B 1 A n xs) (hk : k < n) : ∃ ad u, A = some ad ∧ ad.block < B ∧ xs[k]? = some u ∧ w.cell? (ad.add k) = some u := by
  obtain ⟨ad, e, hb, hc⟩ := h.2 (by omega)
  have hl : k < xs.length := by have := h.1; omega
  exact ⟨ad, xs[k], e, hb, List.getElem?_eq_getElem hl, hc k _ (List.getElem?_eq_getElem hl)⟩
theorem Reads.keep (h : Reads w B size A n xs) (hk : ∀ p : Addr, p.block < B → w'.cell? p = w.cell? p) : Reads w' B size A n xs :=
  ⟨h.1, fun hn => by
    obtain ⟨ad, e, hb, hc⟩ := h.2 hn
    exact ⟨ad, e, hb, fun j u hu => (hk _ (by rw [block_of_add]; exact hb)).trans (hc j u hu)⟩⟩
theorem Reads.more (h : Reads w B size A n xs) (hB : B ≤ B') : Reads w B' size A n xs :=
  ⟨h.1, fun hn => by
    obtain ⟨ad, e, hb, hc⟩ := h.2 hn
    exact ⟨ad, e, by omega, hc⟩⟩
theorem Reads.below (h : Reads w B size A n xs) (hb : Below B w w') : Reads w' B size A n xs := h.keep fun _ hp => hb.cell hp
theorem Reads.alloc (h : Reads w B size A n xs) (hB : B ≤ w.heap.size) (o : Obj) : Reads (w.alloc o) B size A n xs := h.keep fun p hp => World.cell?_alloc_lt w o p (by omega)
theorem Reads.grown (h : Reads w B size A n xs) {row : Option Nat} (hg : w.grownBy w' row) (hB : B ≤ w.heap.size) (hr : ∀ g, row = some g → B ≤ g) : Reads w' B size A n xs :=
  h.keep fun p hp => World.cell?_of_block (hg.block p.block (by omega) (fun e => by have := hr _ e.symm; omega))
theorem Reads.of_own {base : Nat} {e : TypeId} {c : Nat} (h : w.ownsRow base e size (.slice A n c) n xs) : Reads w w.heap.size size A n xs := by
  refine ⟨h.1, fun hn => ?_⟩
  obtain ⟨g, cap, hv, _, hlt⟩ := h.form hn
  have hA : A = some ⟨g, 0, none⟩ := by injection hv
  subst hA
  exact ⟨_, rfl, hlt, h.cells (g := g) rfl⟩
end

def Blk (w : World) (g : Nat) (t : TypeId) (cs : Array Value) : Prop := w.heap[g]? = some (.cells cs t (0, 0))

section
variable {w w' : World} {g : Nat} {t : TypeId} {cs : Array Value}
theorem Blk.lt (h : Blk w g t cs) : g < w.heap.size := by
  rcases Nat.lt_or_ge g w.heap.size with hlt | hge
  · exact hlt
  · unfold Blk at h; rw [Array.getElem?_eq_none hge] at h; cases h
theorem Blk.lt' {w : World} {g : Nat} {o : Obj} (h : w.heap[g]? = some o) : g < w.heap.size := (Array.getElem?_eq_some_iff.1 h).1
theorem Blk.cell (h : Blk w g t cs) (i : Nat) : w.cell? ⟨g, i, none⟩ = cs[i]? := cell_of_row w g i cs t (0, 0) h
theorem Blk.frozen (h : Blk w g t cs) (i : Nat) : w.frozen? ⟨g, i, none⟩ = false := by
  unfold Blk at h
  simp [World.frozen?, h]
theorem Blk.new (w : World) (t : TypeId) (cs : Array Value) : Blk (w.alloc (.cells cs t)) w.heap.size t cs := heap_alloc_new w _
theorem Blk.drew (h : Blk w g t cs) : Blk w.drew g t cs := h
theorem Blk.drewN (h : Blk w g t cs) (n : Nat) : Blk (w.drewN n) g t cs := h
theorem Blk.alloc (h : Blk w g t cs) (o : Obj) : Blk (w.alloc o) g t cs := (Below.heap_alloc w o g h.lt).trans h
theorem Blk.set_ (h : Blk w g t cs) (i : Nat) (u : Value) : Blk (w.setCell ⟨g, i, none⟩ u) g t (cs.setIfInBounds i u) := by
  unfold Blk at h ⊢
  simp [World.setCell, Array.getElem?_modify, h]
theorem Blk.far (h : Blk w g t cs) {p : Addr} (hp : g ≠ p.block) (u : Value) : Blk (w.setCell p u) g t cs := (Below.heap_setCell w p u g hp).trans h
theorem Blk.below {B : Nat} (h : Blk w g t cs) (hb : Below B w w') (hg : g < B) : Blk w' g t cs := (hb.block g hg).trans h
theorem Blk.grown {row : Option Nat} (h : Blk w g t cs) (hb : w.grownBy w' row) (hg : some g ≠ row) : Blk w' g t cs := (hb.block g h.lt hg).trans h
theorem Blk.ne_ {g' : Nat} {t' : TypeId} {cs' : Array Value} (h : Blk w g t cs) (h' : Blk w g' t' cs') (hne : t ≠ t') : g ≠ g' := by
  rintro rfl
  unfold Blk at h h'
  rw [h] at h'
  injection h' with h'
  injection h' with _ ht
  exact hne ht
theorem own_blk_ne {base : Nat} {e : TypeId} {size n : Nat} {v : Value} {xs : List Value} (h : w.ownsRow base e size v n xs) (hg : Blk w g t cs) (hne : e ≠ t) : v.ownBlock ≠ some g := by
  rcases h.2 with ⟨rfl, _⟩ | ⟨g', cap, cur, rfl, _, hh, _⟩
  · simp [Value.ownBlock]
  · intro he
    have : g' = g := by simpa [Value.ownBlock] using he
    subst this
    exact Blk.ne_ (t := e) hh hg hne rfl
end

section
variable {P : Program} (w : World)

theorem run_append_of_nil (base : Nat) (t ty e : TypeId) (i : TypeInfo) (size : Nat) (ht : P.underlying t = some (.slice e)) (hi : P.info? e = some i)
    (v : Value) (n : Nat) (xs : List Value) (hown : w.ownsRow base e size v n xs) (c : Nat) : (Builtin.append_ #[t, t] ty #[v, .slice none 0 c]).run P w = .ok v w := by
  rcases hown.2 with ⟨rfl, rfl⟩ | ⟨g, cap, cur, rfl, _, _, hnc, _⟩
  · simp [Builtin.append_, run_underlying ht, sizeOf, typeInfo, hi, Builtin.lenOf, Builtin.firstCells]
  · simp [Builtin.append_, run_underlying ht, sizeOf, typeInfo, hi, Builtin.lenOf, Builtin.firstCells, hnc, storeCells]

theorem run_append_any (base : Nat) (t ty e : TypeId) (i : TypeInfo) (z : Value) (size bytes : Nat) (ht : P.underlying t = some (.slice e)) (hi : P.info? e = some i) (hz : i.zero = some z)
    (hsize : i.size = size) (hby : i.bytes = bytes) (hzs : z.cells.size = size) (hsz : 0 < size)
    (v : Value) (n : Nat) (xs : List Value) (hown : w.ownsRow base e size v n xs)
    (B : Nat) (A : Option Addr) (m c : Nat) (news : List Value) (hr : Reads w B size A m news) (h1 : ∀ u ∈ news, u.oneCell' = true)
    (h63 : n + m ≤ maxLen) (hbytes : (n + m) * bytes ≤ 140737488355328) (hbase : base ≤ w.heap.size) :
    ∃ v' w', (Builtin.append_ #[t, t] ty #[v, .slice A m c]).run P w = .ok v' w' ∧ w'.ownsRow base e size v' (n + m) (xs ++ news) ∧ w.grownBy w' v.ownBlock ∧
      (v'.ownBlock = v.ownBlock ∨ v'.ownBlock = some w.heap.size) := by
  rcases A with _ | ad
  · have hm : m = 0 := by
      rcases Nat.eq_zero_or_pos m with h0 | h0
      · exact h0
      · obtain ⟨ad, h, _⟩ := hr.2 h0
        cases h
    subst hm
    have hn : news = [] := List.eq_nil_of_length_eq_zero (by simpa using hr.1)
    subst hn
    exact ⟨v, w, run_append_of_nil w base t ty e i size ht hi v n xs hown c, by simpa using hown, World.grownBy.refl w _, .inl rfl⟩
  · have hcells : ∀ j u, news[j]? = some u → w.cell? (ad.add j) = some u := by
      intro j u hu
      rcases Nat.eq_zero_or_pos m with h0 | h0
      · subst h0
        have hn : news = [] := List.eq_nil_of_length_eq_zero (by simpa using hr.1)
        subst hn
        simp at hu
      · obtain ⟨ad', h, _, hc⟩ := hr.2 h0
        injection h with h
        subst h
        exact hc j u hu
    obtain ⟨v', w', hrun, h2, h3, _, h5⟩ := run_append_own_at (P := P) w base t ty e i z size bytes ht hi hz hsize hby hzs hsz v n xs hown ad m c news hr.1 hcells h1 h63 hbytes hbase
    exact ⟨v', w', hrun, h2, h3, h5⟩

theorem wp_append_any {o : Oper} {a : Act} {K : Act → World → Prop} {Q : Exit → Act → World → Prop} (s x : Operand) (t : TypeId)
    (ho : o.op = .call { callee := .builtin .append, args := #[s, x], argTypes := #[t, t] })
    (base : Nat) (e : TypeId) (i : TypeInfo) (z : Value) (size bytes : Nat) (ht : P.underlying t = some (.slice e)) (hi : P.info? e = some i) (hz : i.zero = some z)
    (hsize : i.size = size) (hby : i.bytes = bytes) (hzs : z.cells.size = size) (hsz : 0 < size)
    (v : Value) (n : Nat) (xs : List Value) (hs : a.eval s = v) (hown : w.ownsRow base e size v n xs)
    (B : Nat) (A : Option Addr) (m c : Nat) (news : List Value) (hx : a.eval x = .slice A m c) (hr : Reads w B size A m news) (h1 : ∀ u ∈ news, u.oneCell' = true)
    (h63 : n + m ≤ maxLen) (hbytes : (n + m) * bytes ≤ 140737488355328) (hbase : base ≤ w.heap.size)
    (h : ∀ v' w', w'.ownsRow base e size v' (n + m) (xs ++ news) → w.grownBy w' v.ownBlock → (v'.ownBlock = v.ownBlock ∨ v'.ownBlock = some w.heap.size) → K (a.put o.dst v') w') : o.wp P a w K Q := by
  obtain ⟨v', w', hrun, h2, h3, h4⟩ := run_append_any (P := P) w base t o.type e i z size bytes ht hi hz hsize hby hzs hsz v n xs hown B A m c news hr h1 h63 hbytes hbase
  unfold Oper.wp execOp
  simp only [ho, resolve, invoke, builtin, Sem.run_bind, Sem.run_pure, Result.andThen_ok, List.map_toArray, List.map_cons, List.map_nil, hs, hx, hrun]
  exact h v' w' h2 h3 h4

theorem wpList_append_any {ops : Array Oper} {rest : List Oper} {o : Oper} {a : Act} {Q : Exit → Act → World → Prop} (hgd : o.guard = none) (s x : Operand) (t : TypeId)
    (ho : o.op = .call { callee := .builtin .append, args := #[s, x], argTypes := #[t, t] })
    (base : Nat) (e : TypeId) (i : TypeInfo) (z : Value) (size bytes : Nat) (ht : P.underlying t = some (.slice e)) (hi : P.info? e = some i) (hz : i.zero = some z)
    (hsize : i.size = size) (hby : i.bytes = bytes) (hzs : z.cells.size = size) (hsz : 0 < size)
    (v : Value) (n : Nat) (xs : List Value) (hs : a.eval s = v) (hown : w.ownsRow base e size v n xs)
    (B : Nat) (A : Option Addr) (m c : Nat) (news : List Value) (hx : a.eval x = .slice A m c) (hr : Reads w B size A m news) (h1 : ∀ u ∈ news, u.oneCell' = true)
    (h63 : n + m ≤ maxLen) (hbytes : (n + m) * bytes ≤ 140737488355328) (hbase : base ≤ w.heap.size)
    (h : ∀ v' w', w'.ownsRow base e size v' (n + m) (xs ++ news) → w.grownBy w' v.ownBlock → (v'.ownBlock = v.ownBlock ∨ v'.ownBlock = some w.heap.size) → wpList P ops Q rest (a.put o.dst v') w') : wpList P ops Q (o :: rest) a w :=
  wpList_plain hgd fun _ hK => wp_append_any w s x t ho base e i z size bytes ht hi hz hsize hby hzs hsz v n xs hs hown B A m c news hx hr h1 h63 hbytes hbase fun v' w' h2 h3 h4 => hK _ _ (h v' w' h2 h3 h4)

end

theorem below_drewN {B : Nat} {a w : World} (h : Below B a w) (n : Nat) : Below B a (w.drewN n) := ⟨h.os, h.tape, h.output, h.size, h.block⟩
theorem only_drewN {a w : World} {row : Option Nat} (h : a.grownBy w row) (n : Nat) : a.grownBy (w.drewN n) row := ⟨h.os, h.tape, h.output, h.size, h.block⟩
theorem only_drew {a w : World} {row : Option Nat} (h : a.grownBy w row) : a.grownBy w.drew row := ⟨h.os, h.tape, h.output, h.size, h.block⟩
theorem only_setCell {a w : World} {g : Nat} (h : a.grownBy w (some g)) {p : Addr} (hp : p.block = g ∨ a.heap.size ≤ p.block) (u : Value) : a.grownBy (w.setCell p u) (some g) :=
  ⟨h.os, h.tape, h.output, by simpa [World.setCell] using h.size, fun i hi hne => (Below.heap_setCell w p u i (by
    rintro rfl
    rcases hp with hp | hp
    · exact hne (by rw [hp])
    · omega)).trans (h.block i hi hne)⟩
theorem only_of_below {a w : World} (h : Below a.heap.size a w) (row : Option Nat) : a.grownBy w row := ⟨h.os, h.tape, h.output, h.size, fun i hi _ => h.block i hi⟩

theorem run_make_rowN {P : Program} (t e : TypeId) (i : TypeInfo) (z : Value) (ht : P.underlying t = some (.slice e)) (hi : P.info? e = some i) (hz : i.zero = some z)
    (kl kc : IntKind) (n c : Nat) (hnc : n ≤ c) (hbytes : i.bytes * c ≤ 281474976710656) (h63 : c ≤ 9223372036854775807) (w : World) :
    (Instr.makeSlice t (.int kl (n : Int)) (.int kc (c : Int))).run P w = .ok (.slice (some ⟨w.heap.size, 0, none⟩) n c) (w.alloc (.cells (madeCells z.cells (c * i.size)) e)) := by
  have hb : (i.bytes : Int) * (c : Int) ≤ 281474976710656 := by
    have h : ((i.bytes * c : Nat) : Int) ≤ 281474976710656 := by omega
    rwa [Int.natCast_mul] at h
  have hr := run_make (P := P) w t e i z ht hi hz kl kc n c (by omega) (by omega) hb (by omega)
  simp only [Int.toNat_natCast] at hr
  exact hr
section
variable {H : Type} {enc : TypeId × Value → H} {P : Program}
end

theorem quiet_add_left {P : Program} {f : FuncId} {args : Array Value} {w : World} {a n : Nat} {v : Value}
    (h : Calls P f args (w.drewN (a + n)) fun e w' => e = .returned v ∧ w.drewN (a + n) = w') :
    Calls P f args (w.drewN (a + n)) fun e w'' => e = .returned v ∧ ∃ m, w'' = w.drewN (a + m) :=
  h.mono fun _ _ ⟨he, hm⟩ => ⟨he, n, hm.symm⟩
/-- A slice of uint32 that reads as a list of numbers. -/
def Es (w : World) (B : Nat) (A : Option Addr) (len : Nat) (es : List Nat) : Prop :=
  Reads w B 1 A len (U32 es) ∧ (len = es.length ∧ len ≤ 9223372036854775807) ∧ ∀ e ∈ es, e < 4294967296
/-- A slice of int that reads as a list of numbers. -/
def Xs (w : World) (B : Nat) (A : Option Addr) (len : Nat) (xs : List Int) : Prop :=
  Reads w B 1 A len (I64 xs) ∧ (len = xs.length ∧ len ≤ 9223372036854775807) ∧ ∀ x ∈ xs, -9223372036854775808 ≤ x ∧ x ≤ 9223372036854775807
section
variable {w w' : World} {B B' n k : Nat} {A : Option Addr} {es : List Nat} {xs : List Int}
theorem Es.len (h : Es w B A n es) : n = es.length := h.2.1.1
theorem Es.le (h : Es w B A n es) : n ≤ 9223372036854775807 := h.2.1.2
theorem Es.lt (h : Es w B A n es) (hk : k < n) : nth es k < 4294967296 := h.2.2 _ (nth_mem (by rw [← h.len]; exact hk))
theorem Es.at_ (h : Es w B A n es) (hk : k < n) : ∃ ad, A = some ad ∧ ad.block < B ∧ w.cell? (ad.add k) = some (.int .u32 (nth es k : Int)) := by
  obtain ⟨ad, u, e, hb, hx, hc⟩ := h.1.at_ hk
  obtain rfl := U32_get hx
  exact ⟨ad, e, hb, hc⟩
theorem Es.below (h : Es w B A n es) (hb : Below B w w') : Es w' B A n es := ⟨h.1.below hb, h.2⟩
theorem Es.more (h : Es w B A n es) (hB : B ≤ B') : Es w B' A n es := ⟨h.1.more hB, h.2⟩
theorem Es.new (h : Es w w.heap.size A n es) (hb : Below w.heap.size w w') : Es w' w'.heap.size A n es := (h.below hb).more hb.size
theorem Es.alloc (h : Es w B A n es) (hB : B ≤ w.heap.size) (o : Obj) : Es (w.alloc o) B A n es := ⟨h.1.alloc hB o, h.2⟩
theorem Xs.at_ (h : Xs w B A n xs) (hk : k < n) : ∃ ad, A = some ad ∧ ad.block < B ∧ w.cell? (ad.add k) = some (.int .i64 (inth xs k)) := by
  obtain ⟨ad, u, e, hb, hx, hc⟩ := h.1.at_ hk
  obtain rfl := I64_get hx
  exact ⟨ad, e, hb, hc⟩
theorem Xs.below (h : Xs w B A n xs) (hb : Below B w w') : Xs w' B A n xs := ⟨h.1.below hb, h.2⟩
theorem Xs.more (h : Xs w B A n xs) (hB : B ≤ B') : Xs w B' A n xs := ⟨h.1.more hB, h.2⟩
theorem Xs.new (h : Xs w w.heap.size A n xs) (hb : Below w.heap.size w w') : Xs w' w'.heap.size A n xs := (h.below hb).more hb.size
end
/-- Rows of the call's own, whole. -/
def urow (l : List Nat) : Array Value := (U32 l).toArray
def irow (l : List Int) : Array Value := (I64 l).toArray
theorem urow_get {l : List Nat} {k : Nat} (h : k < l.length) : (urow l)[k]? = some (.int .u32 (nth l k : Int)) := by simp [urow, U32, nth, List.getD, h]
theorem urow_set (l : List Nat) (k x : Nat) : (urow l).setIfInBounds k (.int .u32 (x : Int)) = urow (l.set k x) := by simp [urow, U32, List.map_set]
theorem urow_make (n : Nat) : madeCells #[.int .u32 0] n = urow (List.replicate n 0) := by
  apply Array.ext'; rw [toList_madeCells_one]; simp [urow, U32]
/-- A row of zeros. -/
def zer (n : Nat) : List Nat := List.replicate n 0
theorem zer_length (n : Nat) : (zer n).length = n := by simp [zer]
theorem nth_set {l : List Nat} {k x j : Nat} (hk : k < l.length) : nth (l.set k x) j = if j = k then x else nth l j := by
  simp only [nth, List.getD, List.getElem?_set]
  by_cases h : k = j
  · subst h; simp [hk]
  · simp [h, Ne.symm h]
theorem nth_replicate (n j : Nat) : nth (List.replicate n 0) j = 0 := by
  simp only [nth, List.getD, List.getElem?_replicate]; split <;> rfl
theorem nth_zer (n j : Nat) : nth (zer n) j = 0 := nth_replicate n j
theorem Es.of_blk {w : World} {g t : Nat} {l : List Nat} (h : Blk w g t (urow l)) (hl : l.length ≤ 9223372036854775807) (hb : ∀ e ∈ l, e < 4294967296) : Es w w.heap.size (some ⟨g, 0, none⟩) l.length l :=
  ⟨⟨by simp [U32_length], fun _ => ⟨_, rfl, h.lt, fun j u hu => by
    have e : (Addr.add ⟨g, 0, none⟩ j) = ⟨g, j, none⟩ := by unfold Addr.add; split <;> simp_all
    rw [e, h.cell]; simpa [urow] using hu⟩⟩, ⟨rfl, hl⟩, hb⟩
theorem Xs.of_blk {w : World} {g t : Nat} {l : List Int} (h : Blk w g t (irow l)) (hl : l.length ≤ 9223372036854775807) (hb : ∀ x ∈ l, -9223372036854775808 ≤ x ∧ x ≤ 9223372036854775807) : Xs w w.heap.size (some ⟨g, 0, none⟩) l.length l :=
  ⟨⟨by simp [I64_length], fun _ => ⟨_, rfl, h.lt, fun j u hu => by
    have e : (Addr.add ⟨g, 0, none⟩ j) = ⟨g, j, none⟩ := by unfold Addr.add; split <;> simp_all
    rw [e, h.cell]; simpa [irow] using hu⟩⟩, ⟨rfl, hl⟩, hb⟩
theorem bcell {W w1 : World} (hb : Below W.heap.size W w1) : (∀ b o, b < W.heap.size → w1.cell? ⟨b, o, none⟩ = W.cell? ⟨b, o, none⟩) ∧ (∀ b o, b < W.heap.size → w1.frozen? ⟨b, o, none⟩ = W.frozen? ⟨b, o, none⟩) :=
  ⟨fun b o h => hb.cell (p := ⟨b, o, none⟩) h, fun b o h => hb.frozen (p := ⟨b, o, none⟩) h⟩
theorem ret_int {k : IntKind} {a b : Int} (h : a = b) : Ending.returned (.int k a) = .returned (.int k b) := by rw [h]
theorem ret_bool {a b : Bool} (h : a = b) : Ending.returned (.bool a) = .returned (.bool b) := by rw [h]

section
variable {w w' : World} {g : Nat} {t : TypeId} {x y : Value}
end

theorem only_setCells {a : World} {g : Nat} (vs : List Value) : ∀ (w : World) (o : Nat), a.grownBy w (some g) → a.grownBy (w.setCells g o vs) (some g) := by
  induction vs with
  | nil => intro w o h; exact h
  | cons v r ih => intro w o h; rw [World.setCells]; exact ih _ _ (only_setCell h (.inl rfl) v)
theorem al (w : World) (o : Obj) : Below w.heap.size w (w.alloc o) := (Below.refl _ _).alloc (Nat.le_refl _) _
/-- Two steps, each of which keeps all that stood. -/
theorem bthen {B : Nat} {a b c : World} (h : Below B a b) (k : Below b.heap.size b c) (hB : B ≤ b.heap.size) : Below B a c := h.trans (k.mono hB)
/-- What a region that draws its order keeps: all that stood at its start. -/
theorem olds {w0 w' : World} (hb : Below w0.heap.size w0 w') : (∀ p : Addr, p.block < w0.heap.size → w'.cell? p = w0.cell? p) ∧ Below w0.heap.size w0 w' := ⟨fun _ h => hb.cell h, hb⟩

end Go.Proofs.Ytpnklmgfdihjfaa
namespace Go.Proofs.Ytpnklmgfdihjfaa
open Go.ChangeShapes Go.WideShapes Go.ChangeAt Go.RowKit Go.Joins

theorem own_knob : ownKnob Try.prog.godebug = none := by kernel_rfl
theorem laid_out : laidOutB Try.prog = true := by kernel_rfl

section
variable {H : Type} {enc : TypeId × Value → H} {P : Program} {w : World} {base : Nat} {spare : Nat → Bool} {held : Bool}
end

end Go.Proofs.Ytpnklmgfdihjfaa
namespace Go.Proofs
open Go.Shelf
def Try.lays128_ren : Go.Shelf.Ren := ⟨fun | 128 => 30 | n => n, fun | 51 => 25 | 3 => 3 | 4 => 4 | 46 => 87 | 5 => 5 | 9 => 9 | n => n, fun | n => n⟩
theorem Try.lays128 : Go.Proofs.Lays.n128 Try.prog Try.lays128_ren := {
  mixed := by kernel_rfl
  f128 := Try.func30.trans (congrArg some (by kernel_rfl))
  t3 := Try.underlying3
  a3 := Try.isAgg3
  z3 := Try.sizeOf3
  v3 := Try.zeroValue3
  t4 := Try.underlying4
  a4 := Try.isAgg4
  z4 := Try.sizeOf4
  v4 := Try.zeroValue4
  t5 := Try.underlying5
  a5 := Try.isAgg5
  z5 := Try.sizeOf5
  v5 := Try.zeroValue5
  t9 := Try.underlying9
  a9 := Try.isAgg9
  z9 := Try.sizeOf9
  v9 := Try.zeroValue9
  t46 := Try.underlying87
  a46 := Try.isAgg87
  z46 := Try.sizeOf87
  v46 := Try.zeroValue87
  t51 := Try.underlying25
  a51 := Try.isAgg25
  z51 := Try.sizeOf25
  v51 := Try.zeroValue25 }
/-- bits.Len32: "Len32 returns the minimum number of bits required to represent x; the result is 0 for x == 0.": IT RETURNS 'Lib.bitLen x'; the world is as it was. ('h0', 'h1': x is a uint32.) (LAID: no walk: one application.) -/
theorem Try.bits_Len32 (x : Int) (w : World) (h0 : 0 ≤ x) (h1 : x ≤ 4294967295) :
    Calls Try.prog 30 #[.int .u32 x] w fun e w' => e = .returned (.int .i64 (Lib.bitLen x.toNat)) ∧ w' = w := Any.bits_Len32 Try.lays128 x w h0 h1
def Try.lays125_ren : Go.Shelf.Ren := ⟨fun | 125 => 98 | 128 => 30 | 129 => 107 | n => n, fun | 46 => 87 | 3 => 3 | 51 => 25 | 53 => 49 | 4 => 4 | 5 => 5 | 9 => 9 | n => n, fun | n => n⟩
theorem Try.lays125 : Go.Proofs.Lays.n125 Try.prog Try.lays125_ren := {
  mixed := by kernel_rfl
  f125 := Try.func98.trans (congrArg some (by kernel_rfl))
  f128 := Try.func30.trans (congrArg some (by kernel_rfl))
  f129 := Try.func107.trans (congrArg some (by kernel_rfl))
  t3 := Try.underlying3
  a3 := Try.isAgg3
  z3 := Try.sizeOf3
  v3 := Try.zeroValue3
  t4 := Try.underlying4
  a4 := Try.isAgg4
  z4 := Try.sizeOf4
  v4 := Try.zeroValue4
  t5 := Try.underlying5
  a5 := Try.isAgg5
  z5 := Try.sizeOf5
  v5 := Try.zeroValue5
  t9 := Try.underlying9
  a9 := Try.isAgg9
  z9 := Try.sizeOf9
  v9 := Try.zeroValue9
  t46 := Try.underlying87
  a46 := Try.isAgg87
  z46 := Try.sizeOf87
  v46 := Try.zeroValue87
  t51 := Try.underlying25
  a51 := Try.isAgg25
  z51 := Try.sizeOf25
  v51 := Try.zeroValue25
  t53 := Try.underlying49
  a53 := Try.isAgg49
  z53 := Try.sizeOf49
  v53 := Try.zeroValue49 }
/-- bits.Len: "Len returns the minimum number of bits required to represent x; the result is 0 for x == 0.": IT RETURNS 'Lib.bitLen x'; the world is as it was. (A uint has 64 bits in the model.) ITS CALLEE bits.Len64 IS MET BY ITS OWN CONTRACT OFF THE SHELF (lay that first). (LAID: no walk: one application.) -/
theorem Try.bits_Len (x : Int) (w : World) (h0 : 0 ≤ x) (h1 : x ≤ 18446744073709551615) :
    Calls Try.prog 98 #[.int .u64 x] w fun e w' => e = .returned (.int .i64 (Lib.bitLen x.toNat)) ∧ w' = w := Any.bits_Len Try.lays125 x w h0 h1
def Try.lays133_ren : Go.Shelf.Ren := ⟨fun | 133 => 101 | 128 => 30 | n => n, fun | 51 => 25 | 3 => 3 | 4 => 4 | 46 => 87 | 5 => 5 | 9 => 9 | n => n, fun | n => n⟩
theorem Try.lays133 : Go.Proofs.Lays.n133 Try.prog Try.lays133_ren := {
  mixed := by kernel_rfl
  f128 := Try.func30.trans (congrArg some (by kernel_rfl))
  f133 := Try.func101.trans (congrArg some (by kernel_rfl))
  t3 := Try.underlying3
  a3 := Try.isAgg3
  z3 := Try.sizeOf3
  v3 := Try.zeroValue3
  t4 := Try.underlying4
  a4 := Try.isAgg4
  z4 := Try.sizeOf4
  v4 := Try.zeroValue4
  t5 := Try.underlying5
  a5 := Try.isAgg5
  z5 := Try.sizeOf5
  v5 := Try.zeroValue5
  t9 := Try.underlying9
  a9 := Try.isAgg9
  z9 := Try.sizeOf9
  v9 := Try.zeroValue9
  t46 := Try.underlying87
  a46 := Try.isAgg87
  z46 := Try.sizeOf87
  v46 := Try.zeroValue87
  t51 := Try.underlying25
  a51 := Try.isAgg25
  z51 := Try.sizeOf25
  v51 := Try.zeroValue25 }
/-- bits.LeadingZeros32: "LeadingZeros32 returns the number of leading zero bits in x; the result is 32 for x == 0.": IT RETURNS '32 - Lib.bitLen x'; the world is as it was. ITS CALLEE bits.Len32 IS MET BY ITS OWN CONTRACT OFF THE SHELF (lay that first): entered in place it sends the kernel out of memory. (LAID: no walk: one application.) -/
theorem Try.bits_LeadingZeros32 (x : Int) (w : World) (h0 : 0 ≤ x) (h1 : x ≤ 4294967295) :
    Calls Try.prog 101 #[.int .u32 x] w fun e w' => e = .returned (.int .i64 (32 - (Lib.bitLen x.toNat : Int))) ∧ w' = w := Any.bits_LeadingZeros32 Try.lays133 x w h0 h1
end Go.Proofs
namespace Go.Proofs.Ytpnklmgfdihjfaa
open Go.RowKit Go.Shelf

end Go.Proofs.Ytpnklmgfdihjfaa
namespace Go.Proofs.Ytpnklmgfdihjfaa
open Go.RowKit

theorem own_form {w : World} {base : Nat} {e : TypeId} {size n : Nat} {v : Value} {xs : List Value} (h : w.ownsRow base e size v n xs) : ∃ A c, v = .slice A n c := by
  rcases h.2 with ⟨rfl, hn⟩ | ⟨g, cap, cur, rfl, _⟩
  · exact ⟨none, 0, by rw [hn]⟩
  · exact ⟨_, _, rfl⟩
theorem own_le {w : World} {base : Nat} {e : TypeId} {n : Nat} {v : Value} {xs : List Value} (h : w.ownsRow base e 1 v n xs) : n ≤ 9223372036854775807 := by
  rcases h.2 with ⟨_, hn⟩ | ⟨g, cap, cur, _, _, _, h1, h2, _⟩
  · omega
  · unfold maxLen at h2; omega
theorem Es.of_own {w : World} {base : Nat} {e : TypeId} {n : Nat} {v : Value} {L : List Nat} (h : w.ownsRow base e 1 v n (U32 L)) (hb : ∀ e ∈ L, e < 4294967296) : ∃ A c, v = .slice A n c ∧ Es w w.heap.size A n L := by
  obtain ⟨A, c, rfl⟩ := own_form h
  refine ⟨A, c, rfl, Reads.of_own h, ⟨?_, own_le h⟩, hb⟩
  have := h.1
  simpa [U32_length] using this.symm
theorem Xs.of_own {w : World} {base : Nat} {e : TypeId} {n : Nat} {v : Value} {L : List Int} (h : w.ownsRow base e 1 v n (I64 L)) (hb : ∀ x ∈ L, -9223372036854775808 ≤ x ∧ x ≤ 9223372036854775807) : ∃ A c, v = .slice A n c ∧ Xs w w.heap.size A n L := by
  obtain ⟨A, c, rfl⟩ := own_form h
  refine ⟨A, c, rfl, Reads.of_own h, ⟨?_, own_le h⟩, hb⟩
  have := h.1
  simpa [I64_length] using this.symm
theorem own_empty (w : World) (e : TypeId) : (w.alloc (.cells #[] e)).ownsRow w.heap.size e 1 (.slice (some ⟨w.heap.size, 0, none⟩) 0 0) 0 [] :=
  ⟨rfl, .inr ⟨w.heap.size, 0, #[], rfl, Nat.le_refl _, heap_alloc_new w _, Nat.le_refl _, Nat.zero_le _, rfl, rfl⟩⟩
theorem one_U32 (l : List Nat) : ∀ u ∈ U32 l, u.oneCell' = true := by
  intro v hv; simp only [U32, List.mem_map] at hv; obtain ⟨_, _, rfl⟩ := hv; rfl
theorem own_nil (w : World) (base : Nat) (e : TypeId) : w.ownsRow base e 1 (.slice none 0 0) 0 [] := ⟨rfl, .inl ⟨rfl, rfl⟩⟩
/-- A block of another element type keeps its cells over an append. -/
theorem Blk.appended {w w' : World} {g : Nat} {t e : TypeId} {cs : Array Value} {base size n : Nat} {v : Value} {xs : List Value} (h : Blk w g t cs) (hown : w.ownsRow base e size v n xs) (hg : w.grownBy w' v.ownBlock) (hne : e ≠ t) : Blk w' g t cs :=
  h.grown hg (fun he => own_blk_ne hown h hne he.symm)
/-- A store into a block of another element type keeps an owned row. -/
theorem own_far {w : World} {g : Nat} {t e : TypeId} {cs : Array Value} {base size n : Nat} {v : Value} {xs : List Value} (h : w.ownsRow base e size v n xs) (hb : Blk w g t cs) (hne : e ≠ t) (i : Nat) (u : Value) : (w.setCell ⟨g, i, none⟩ u).ownsRow base e size v n xs := by
  refine ⟨h.1, ?_⟩
  rcases h.2 with h0 | ⟨g', cap, cur, rfl, h1, h2, h3⟩
  · exact .inl h0
  · have hgg : g' ≠ g := fun he => by
      subst he
      exact Blk.ne_ (t := e) h2 hb hne rfl
    exact .inr ⟨g', cap, cur, rfl, h1, (Below.heap_setCell w ⟨g, i, none⟩ u g' hgg).trans h2, h3⟩
theorem own_below {w w' : World} {e : TypeId} {base size n : Nat} {v : Value} {xs : List Value} (h : w.ownsRow base e size v n xs) (hb : Below w.heap.size w w') : w'.ownsRow base e size v n xs := by
  refine ⟨h.1, ?_⟩
  rcases h.2 with h0 | ⟨g', cap, cur, rfl, h1, h2, h3⟩
  · exact .inl h0
  · have hlt : g' < w.heap.size := Blk.lt' h2
    exact .inr ⟨g', cap, cur, rfl, h1, (hb.block g' hlt).trans h2, h3⟩
/-- A row is kept where only a block of another element type has changed. -/
theorem own_grown_ne {w w' : World} {g : Nat} {t e : TypeId} {cs : Array Value} {base size n : Nat} {v : Value} {xs : List Value} (h : w.ownsRow base e size v n xs) (hb : Blk w g t cs) (hg : w.grownBy w' (some g)) (hne : e ≠ t) : w'.ownsRow base e size v n xs := by
  refine ⟨h.1, ?_⟩
  rcases h.2 with h0 | ⟨g', cap, cur, rfl, h1, h2, h3⟩
  · exact .inl h0
  · have hgg : g' ≠ g := fun he => by
      subst he
      exact Blk.ne_ (t := e) h2 hb hne rfl
    exact .inr ⟨g', cap, cur, rfl, h1, (hg.block g' (Blk.lt' h2) (by simp; exact hgg)).trans h2, h3⟩
theorem own_base {w : World} {base : Nat} {e : TypeId} {size n : Nat} {v : Value} {xs : List Value} (h : w.ownsRow base e size v n xs) : ∀ k, v.ownBlock = some k → base ≤ k := by
  intro k hk
  rcases h.2 with ⟨rfl, _⟩ | ⟨g, cap, cur, rfl, hb, _⟩
  · simp [Value.ownBlock] at hk
  · simp [Value.ownBlock] at hk; omega
theorem Below.appended {B base : Nat} {a w w' : World} {e : TypeId} {size n : Nat} {v : Value} {xs : List Value} (h : Below B a w) (hown : w.ownsRow base e size v n xs) (hg : w.grownBy w' v.ownBlock) (hB : B ≤ w.heap.size) (hbase : B ≤ base) : Below B a w' :=
  h.grown hg hB (fun k hk => by have := own_base hown k hk; omega)

/-- A row keeps what it holds where only another row, of another element type, has grown. -/
theorem own_grown_own {w w' : World} {base base' : Nat} {e e' : TypeId} {size size' n n' : Nat} {v v' : Value} {xs xs' : List Value} (h : w.ownsRow base e size v n xs) (h' : w.ownsRow base' e' size' v' n' xs') (hne : e ≠ e') (hg : w.grownBy w' v'.ownBlock) : w'.ownsRow base e size v n xs := by
  refine ⟨h.1, ?_⟩
  rcases h.2 with h0 | ⟨g, cap, cur, rfl, h1, h2, h3⟩
  · exact .inl h0
  · refine .inr ⟨g, cap, cur, rfl, h1, ?_, h3⟩
    refine (hg.block g (Blk.lt' h2) ?_).trans h2
    rcases h'.2 with ⟨rfl, _⟩ | ⟨g', cap', cur', rfl, _, h2', _⟩
    · simp [Value.ownBlock]
    · simp only [Value.ownBlock]
      intro he
      injection he with he
      subst he
      rw [h2] at h2'
      injection h2' with h2'
      injection h2' with _ ht
      exact hne ht

end Go.Proofs.Ytpnklmgfdihjfaa
namespace Go.Proofs.Ytpnklmgfdihjfaa

/-- The value of a list of digits in base b. -/
def valB (b : Nat) : List Nat → Nat
  | [] => 0
  | d :: l => d + b * valB b l
/-- Digits below b, the last one not 0; they are worth n. -/
def Nrm (b : Nat) (l : List Nat) (n : Nat) : Prop := valB b l = n ∧ (∀ d ∈ l, d < b) ∧ (l = [] ∨ nth l (l.length - 1) ≠ 0)

theorem valB_append (b : Nat) (l m : List Nat) : valB b (l ++ m) = valB b l + b ^ l.length * valB b m := by
  induction l with
  | nil => simp [valB]
  | cons d l ih => simp only [List.cons_append, valB, ih, List.length_cons, Nat.pow_succ]; rw [Nat.mul_add, Nat.add_assoc, ← Nat.mul_assoc, Nat.mul_comm b (b ^ l.length)]
theorem valB_single (b d : Nat) : valB b [d] = d := by simp [valB]
theorem valB_lt {b : Nat} {l : List Nat} (h : ∀ d ∈ l, d < b) : valB b l < b ^ l.length := by
  induction l with
  | nil => simp [valB]
  | cons d l ih =>
    have h1 := ih (fun x hx => h x (by simp [hx]))
    have h2 := h d (by simp)
    simp only [valB, List.length_cons, Nat.pow_succ]
    have h3 : b * (valB b l + 1) ≤ b * b ^ l.length := Nat.mul_le_mul_left b h1
    rw [Nat.mul_comm (b ^ l.length) b]
    rw [Nat.mul_add] at h3
    omega
theorem valB_take {b : Nat} {l : List Nat} {k : Nat} (h : k < l.length) : valB b (l.take (k + 1)) = valB b (l.take k) + b ^ k * nth l k := by
  rw [List.take_succ_eq_append_getElem h, valB_append, valB_single, nth_eq h, List.length_take, Nat.min_eq_left (by omega)]
theorem valB_split (b : Nat) (l : List Nat) (k : Nat) (h : k ≤ l.length) : valB b l = valB b (l.take k) + b ^ k * valB b (l.drop k) := by
  have h1 := valB_append b (l.take k) (l.drop k)
  rw [List.take_append_drop, List.length_take, Nat.min_eq_left h] at h1
  exact h1
theorem valB_drop {b : Nat} {l : List Nat} {k : Nat} (h : k < l.length) : valB b (l.drop k) = nth l k + b * valB b (l.drop (k + 1)) := by
  rw [List.drop_eq_getElem_cons h, valB, nth_eq h]
theorem valB_zero (b n : Nat) : valB b (List.replicate n 0) = 0 := by
  induction n with
  | zero => rfl
  | succ n ih => simp [List.replicate_succ, valB, ih]
theorem valB_set {b : Nat} {l : List Nat} {k x : Nat} (h : k < l.length) : valB b (l.set k x) + b ^ k * nth l k = valB b l + b ^ k * x := by
  have h1 := valB_split b (l.set k x) k (by simp; omega)
  have h2 := valB_split b l k (by omega)
  have h3 : (l.set k x).take k = l.take k := by rw [List.take_set]; exact List.set_eq_of_length_le (by simp; omega)
  have h4 : valB b ((l.set k x).drop k) = x + b * valB b (l.drop (k + 1)) := by
    rw [valB_drop (by simp; exact h), nth_eq (by simp; exact h)]
    simp [List.drop_set]
  rw [h3, h4, Nat.mul_add] at h1
  rw [valB_drop h, Nat.mul_add] at h2
  omega
theorem valB_all_zero {b : Nat} {l : List Nat} (h : ∀ k, k < l.length → nth l k = 0) : valB b l = 0 := by
  induction l with
  | nil => rfl
  | cons d l ih =>
    have h0 := h 0 (by simp)
    simp only [nth, List.getD, List.getElem?_cons_zero, Option.getD_some] at h0
    rw [valB, h0, ih (fun k hk => ?_)]
    · simp
    · have := h (k + 1) (by simp; omega)
      simpa [nth, List.getD] using this
theorem nth_take {l : List Nat} {k j : Nat} (h : j < k) : nth (l.take k) j = nth l j := by
  simp [nth, List.getD, h]
/-- Taking off zeros at the end changes nothing. -/
theorem valB_trim {b : Nat} {l : List Nat} {k : Nat} (hk : k ≤ l.length) (h : ∀ j, k ≤ j → j < l.length → nth l j = 0) : valB b (l.take k) = valB b l := by
  rw [valB_split b l k hk, valB_all_zero (l := l.drop k) (fun j hj => ?_)]
  · simp
  · rw [List.length_drop] at hj
    have := h (k + j) (by omega) (by omega)
    simpa [nth, List.getD, List.getElem?_drop] using this
theorem Nrm.nil (b : Nat) : Nrm b [] 0 := ⟨rfl, by simp, .inl rfl⟩
theorem Nrm.pos {b : Nat} {l : List Nat} {n : Nat} (h : Nrm b l n) (hl : 0 < l.length) : b ^ (l.length - 1) ≤ n := by
  have h1 : nth l (l.length - 1) ≠ 0 := by
    rcases h.2.2 with h0 | h0
    · subst h0; simp at hl
    · exact h0
  have h2 := valB_take (b := b) (l := l) (k := l.length - 1) (by omega)
  rw [Nat.sub_add_cancel hl, List.take_length, h.1] at h2
  rw [h2]
  have : b ^ (l.length - 1) * 1 ≤ b ^ (l.length - 1) * nth l (l.length - 1) := Nat.mul_le_mul_left _ (by omega)
  omega
theorem Nrm.lt {b : Nat} {l : List Nat} {n : Nat} (h : Nrm b l n) : n < b ^ l.length := by
  rw [← h.1]; exact valB_lt h.2.1
theorem Nrm.zero_iff {b : Nat} {l : List Nat} {n : Nat} (h : Nrm b l n) (hb : 0 < b) : l.length = 0 ↔ n = 0 := by
  constructor
  · intro h0; have := h.lt; rw [h0] at this; simp at this; exact this
  · intro h0
    rcases Nat.eq_zero_or_pos l.length with h1 | h1
    · exact h1
    · have h2 := h.pos h1
      have h3 : 0 < b ^ (l.length - 1) := Nat.pow_pos hb
      omega
theorem Nrm.len_lt {b : Nat} {l m : List Nat} {x y : Nat} (h : Nrm b l x) (k : Nrm b m y) (hb : 0 < b) (hlt : l.length < m.length) : x < y := by
  have h1 := h.lt
  have h2 := k.pos (by omega)
  have h3 : b ^ l.length ≤ b ^ (m.length - 1) := Nat.pow_le_pow_right hb (by omega)
  omega
/-- Two lists of one length that agree above k, compared at k. -/
theorem val_cmp {b : Nat} {l m : List Nat} {k : Nat} (hl : ∀ d ∈ l, d < b) (hlen : l.length = m.length) (hk : k < l.length)
    (hd : l.drop (k + 1) = m.drop (k + 1)) (hlt : nth l k < nth m k) : valB b l < valB b m := by
  rw [valB_split b l (k + 1) (by omega), valB_split b m (k + 1) (by omega), hd, valB_take hk, valB_take (by omega)]
  have h1 : valB b (l.take k) < b ^ k := by
    have := valB_lt (b := b) (l := l.take k) (fun d hd => hl d (List.mem_of_mem_take hd))
    rwa [List.length_take, Nat.min_eq_left (by omega)] at this
  have h2 : b ^ k * (nth l k + 1) ≤ b ^ k * nth m k := Nat.mul_le_mul_left _ hlt
  rw [Nat.mul_add] at h2
  omega
theorem Nrm.mk_trim {b : Nat} {l : List Nat} {k : Nat} (hl : ∀ d ∈ l, d < b) (hk : k ≤ l.length) (h : ∀ j, k ≤ j → j < l.length → nth l j = 0) (hlast : k = 0 ∨ nth l (k - 1) ≠ 0) : Nrm b (l.take k) (valB b l) := by
  refine ⟨valB_trim hk h, fun d hd => hl d (List.mem_of_mem_take hd), ?_⟩
  rcases hlast with h0 | h0
  · left; subst h0; simp
  · by_cases hk0 : k = 0
    · left; subst hk0; simp
    · right
      rw [List.length_take, Nat.min_eq_left hk, nth_take (by omega)]
      exact h0
end Go.Proofs.Ytpnklmgfdihjfaa
namespace Go.Proofs.Ytpnklmgfdihjfaa
open Go.RowKit

theorem Es.take {w : World} {B n k : Nat} {A : Option Addr} {es : List Nat} (h : Es w B A n es) (hk : k ≤ n) : Es w B A k (es.take k) := by
  have hl := h.2.1.1
  refine ⟨⟨by rw [U32_length]; simp; omega, fun hp => ?_⟩, ⟨by simp; omega, by have := h.2.1.2; omega⟩, fun e he => h.2.2 e (List.mem_of_mem_take he)⟩
  obtain ⟨ad, rfl, hb, hc⟩ := h.1.2 (by omega)
  refine ⟨ad, rfl, hb, fun j u hu => hc j u ?_⟩
  simp only [U32, List.map_take] at hu ⊢
  rw [List.getElem?_take] at hu
  split at hu
  · exact hu
  · cases hu

/-- What trim answers: a part of the very slice, normal, of the same value. -/
def RetTrim (A : Option Addr) (n N : Nat) (w : World) (e : Ending) (w' : World) : Prop := ∃ k l, e = .returned (.slice A k k) ∧ k ≤ n ∧ Es w w.heap.size A k l ∧ Nrm 4294967296 l N ∧ w = w'
/-- A slice that reads as the normal digits of N; nothing that stood has changed. -/
def RetNat (w : World) (N : Nat) (e : Ending) (w' : World) : Prop := ∃ A k c l, e = .returned (.slice A k c) ∧ k ≤ c ∧ Es w' w'.heap.size A k l ∧ Nrm 4294967296 l N ∧ Below w.heap.size w w'

set_option maxHeartbeats 1000000 in
theorem trim_any (A : Option Addr) (ds : List Nat) (n c : Nat) (hc : n ≤ c) (w : World) (hr : Es w w.heap.size A n ds) :
    Calls Try.prog 40 #[.slice A n c] w (RetTrim A n (valB 4294967296 ds) w) := by
  have hle := hr.le
  have HR := Lib.hid hr; clear hr
  go_enter Try.func40, Try.ntmps40
  go_wp2_with fail
  go_loop [3] (fun i => ∃ k : Nat, k ≤ n ∧ i = .int .i64 k ∧ Hid (∀ j, k ≤ j → j < n → nth ds j = 0)) (fun i => (intOf i).toNat)
  case atStart => exact ⟨n, Nat.le_refl _, rfl, Lib.hid (fun j h1 h2 => absurd h2 (by omega))⟩
  case round =>
    obtain ⟨k, hk, rfl, HJ⟩ := hrel
    by_cases hk0 : 0 < k
    · obtain ⟨k, rfl⟩ : ∃ m, k = m + 1 := ⟨k - 1, by omega⟩
      obtain ⟨ad, rfl, hb, hcell⟩ := HR.out.at_ (show k < n by omega)
      have i1 : ((k + 1 : Nat) : Int) - 1 = (k : Int) := by omega
      by_cases hz : nth ds k = 0
      · have ht : ((nth ds k : Int) == 0) = true := by simp [hz]
        have HZ := Lib.hid hz; clear hz
        go_wp2_with fail
        refine ⟨⟨k, by omega, rfl, Lib.hid (fun j h1 h2 => ?_)⟩, by simp [intOf]⟩
        by_cases hj : j = k
        · subst hj; exact HZ.out
        · exact HJ.out j (by omega) h2
      · have ht : ((nth ds k : Int) == 0) = false := by simp [hz]
        have HZ := Lib.hid hz; clear hz
        go_wp2_with fail
        go_ret
        exact ⟨k + 1, ds.take (k + 1), rfl, by omega, HR.out.take (by omega), Nrm.mk_trim HR.out.2.2 (by have := HR.out.len; omega) (by have := HR.out.len; rw [← this]; exact HJ.out) (.inr HZ.out), rfl⟩
    · obtain rfl : k = 0 := by omega
      have h0 : ((0 : Nat) : Int) = 0 := rfl
      go_wp2_with fail
      go_ret
      exact ⟨0, ds.take 0, rfl, by omega, HR.out.take (by omega), Nrm.mk_trim HR.out.2.2 (by omega) (by have := HR.out.len; rw [← this]; exact HJ.out) (.inl rfl), rfl⟩

theorem cell_split (n : Nat) : n < 18446744073709551616 → valB 4294967296 [n % 4294967296, n / 4294967296] = n := by
  intro h; simp only [valB]; omega

set_option maxHeartbeats 1000000 in
theorem nof_any (n : Nat) (hn : n < 18446744073709551616) (w : World) : Calls Try.prog 15 #[.int .u64 n] w (RetNat w n) := by
  go_enter Try.func15, Try.ntmps15
  go_wp2_with fail
  have hE : Es (w.alloc (Obj.cells #[Value.int IntKind.u32 ((n : Int) % 4294967296), Value.int IntKind.u32 ((n : Int) / 4294967296)] 25)) (w.alloc (Obj.cells #[Value.int IntKind.u32 ((n : Int) % 4294967296), Value.int IntKind.u32 ((n : Int) / 4294967296)] 25)).heap.size (some ⟨w.heap.size, 0, none⟩) 2 [n % 4294967296, n / 4294967296] := by
    refine Es.of_blk (l := [n % 4294967296, n / 4294967296]) (t := 25) ?_ (by simp) ?_
    · have := Blk.new w 25 (urow [n % 4294967296, n / 4294967296])
      simpa [urow, U32] using this
    · intro e he
      simp at he
      omega
  refine (trim_any _ _ 2 2 (Nat.le_refl _) _ hE).mono ?_
  rintro e w1 ⟨k, l, rfl, hk, hl, hN, rfl⟩
  rw [cell_split n hn] at hN
  have H1 := Lib.hid hl; clear hl hE
  have H2 := Lib.hid hN; clear hN
  go_wp2_with fail
  go_ret
  exact ⟨_, k, k, l, rfl, Nat.le_refl _, H1.out, H2.out, al _ _⟩

/-- -1, 0 or 1. -/
def cmpI (a b : Int) : Int := if a < b then -1 else if b < a then 1 else 0
def cmpN (a b : Nat) : Int := if a < b then -1 else if b < a then 1 else 0

set_option maxHeartbeats 1000000 in
theorem cmpInt_any (a b : Int) (w : World) : Calls Try.prog 36 #[.int .i64 a, .int .i64 b] w fun e w' => e = .returned (.int .i64 (cmpI a b)) ∧ w = w' := by
  by_cases h1 : a < b
  · rw [show cmpI a b = -1 by simp [cmpI, h1]]
    go_enter Try.func36, Try.ntmps36
    go_wp2
    go_ret
    exact ⟨rfl, rfl⟩
  · by_cases h2 : b < a
    · rw [show cmpI a b = 1 by simp [cmpI, h1, h2]]
      go_enter Try.func36, Try.ntmps36
      go_wp2
      go_ret
      exact ⟨rfl, rfl⟩
    · rw [show cmpI a b = 0 by simp [cmpI, h1, h2]]
      go_enter Try.func36, Try.ntmps36
      go_wp2
      go_ret
      exact ⟨rfl, rfl⟩

set_option maxHeartbeats 1000000 in
theorem cmpU32_any (a b : Nat) (w : World) : Calls Try.prog 47 #[.int .u32 a, .int .u32 b] w fun e w' => e = .returned (.int .i64 (cmpN a b)) ∧ w = w' := by
  by_cases h1 : a < b
  · rw [show cmpN a b = -1 by simp [cmpN, h1]]
    go_enter Try.func47, Try.ntmps47
    go_wp2
    go_ret
    exact ⟨rfl, rfl⟩
  · by_cases h2 : b < a
    · rw [show cmpN a b = 1 by simp [cmpN, h1, h2]]
      go_enter Try.func47, Try.ntmps47
      go_wp2
      go_ret
      exact ⟨rfl, rfl⟩
    · rw [show cmpN a b = 0 by simp [cmpN, h1, h2]]
      go_enter Try.func47, Try.ntmps47
      go_wp2
      go_ret
      exact ⟨rfl, rfl⟩

theorem info_u32 : (Try.prog.info? 25).map (fun i => (i.zero, i.size, i.bytes)) = some (some (.int .u32 0), 1, 4) := by kernel_rfl
/-- A row of the call's own that reads ds. -/
def RetOwn (w : World) (n : Nat) (ds : List Nat) (e : Ending) (w' : World) : Prop := ∃ v, e = .returned v ∧ w'.ownsRow w.heap.size 25 1 v n (U32 ds) ∧ Below w.heap.size w w'

set_option maxHeartbeats 1000000 in
theorem clone_any (A : Option Addr) (ds : List Nat) (n c : Nat) (hn : n ≤ 1000000) (w : World) (hr : Es w w.heap.size A n ds) :
    Calls Try.prog 94 #[.slice A n c] w (RetOwn w n ds) := by
  have HR := Lib.hid hr; clear hr
  cases A with
  | none =>
    have h0 : n = 0 := by
      rcases Nat.eq_zero_or_pos n with h | h
      · exact h
      · obtain ⟨_, h1, _⟩ := HR.out.1.2 h; cases h1
    subst h0
    have hd : ds = [] := List.eq_nil_of_length_eq_zero HR.out.len.symm
    subst hd
    have hq := fun W => Lib.run_eql_slice_nil (P := Try.prog) W 29 25 none 0 c 0 0 Try.underlying29
    go_enter Try.func94, Try.ntmps94
    go_wp2_with fail
    go_ret
    exact ⟨_, rfl, own_nil _ _ _, Below.refl _ _⟩
  | some ad =>
    have hq := fun W => Lib.run_eql_slice_nil (P := Try.prog) W 29 25 (some ad) n c 0 0 Try.underlying29
    obtain ⟨i, hi, hz, hs1, hby⟩ := info_parts info_u32
    go_enter Try.func94, Try.ntmps94
    go_wp2_with (at_builtin; refine wpList_append_any _ rfl (.tmp 5) (.tmp 6) 29 rfl w.heap.size 25 i _ 1 4 Try.underlying29 hi hz hs1 hby rfl (by omega) _ 0 [] rfl (own_empty w _) w.heap.size (some ad) n c (U32 ds) rfl (HR.out.1.alloc (Nat.le_refl _) _) (one_U32 ds) (by simp only [maxLen]; omega) (by omega) (by simp) ?_; intro v1 w1 hown1 hg1 hat1; have H1 := Lib.hid hown1; have H2 := Lib.hid hg1; clear hown1 hg1 hat1)
    go_ret
    refine ⟨v1, rfl, ?_, ?_⟩
    · have := H1.out
      simpa using this
    · exact (al w _).grown H2.out (by simp) (fun k hk => by cases hk; exact Nat.le_refl _)

set_option maxHeartbeats 1000000 in
theorem norm_any (A : Option Addr) (ds : List Nat) (n c : Nat) (hc : n ≤ c) (hn : n ≤ 1000000) (w : World) (hr : Es w w.heap.size A n ds) :
    Calls Try.prog 73 #[.slice A n c] w fun e w' => ∃ k l, RetOwn w k l e w' ∧ k ≤ n ∧ k = l.length ∧ Nrm 4294967296 l (valB 4294967296 ds) := by
  have HR := Lib.hid hr; clear hr
  have key : Calls Try.prog 73 #[.slice A n c] w fun e w' => Hid (∃ k l, RetOwn w k l e w' ∧ k ≤ n ∧ k = l.length ∧ Nrm 4294967296 l (valB 4294967296 ds)) := by
    go_enter Try.func73, Try.ntmps73
    go_wp2_with fail
    refine (trim_any A ds n c hc _ HR.out).mono ?_
    rintro e w1 ⟨k, l, rfl, hk, hl, hN, rfl⟩
    have H1 := Lib.hid hl; clear hl
    have H2 := Lib.hid hN; clear hN
    go_wp2_with fail
    refine (clone_any A l k k (by omega) _ H1.out).mono ?_
    rintro e w2 ⟨v, rfl, hown, hb⟩
    have H3 := Lib.hid hown; clear hown
    have H4 := Lib.hid hb; clear hb
    go_wp2_with fail
    go_ret
    exact Lib.hid ⟨k, l, ⟨v, rfl, H3.out, H4.out⟩, hk, H1.out.len, H2.out⟩
  exact key

set_option maxHeartbeats 2000000 in
theorem ncmp_any (A : Option Addr) (ds : List Nat) (n c : Nat) (hc : n ≤ c) (B : Option Addr) (fs : List Nat) (m d : Nat) (hd : m ≤ d) (w : World) (hr : Es w w.heap.size A n ds) (hs : Es w w.heap.size B m fs) :
    Calls Try.prog 18 #[.slice A n c, .slice B m d] w fun e w' => e = .returned (.int .i64 (cmpN (valB 4294967296 ds) (valB 4294967296 fs))) ∧ Below w.heap.size w w' := by
  have HR := Lib.hid hr; clear hr
  have HS := Lib.hid hs; clear hs
  go_enter Try.func18, Try.ntmps18
  go_wp2_with fail
  refine (trim_any A ds n c hc _ HR.out).mono ?_
  rintro e w1 ⟨k, l, rfl, hk, hl, hN, rfl⟩
  have H1 := Lib.hid hl; clear hl
  have N1 := Lib.hid hN; clear hN
  go_wp2_with fail
  refine (trim_any B fs m d hd _ HS.out).mono ?_
  rintro e w2 ⟨j, f, rfl, hj, hf, hM, rfl⟩
  have H2 := Lib.hid hf; clear hf
  have N2 := Lib.hid hM; clear hM
  have hk2 := H1.out.le
  have hj2 := H2.out.le
  by_cases hkj : k = j
  · have hb : ((k : Int) != (j : Int)) = false := by simp [hkj]
    obtain rfl : k = j := hkj
    go_wp2_with fail
    go_loopw [5] (fun i wr => ∃ a : Int, -1 ≤ a ∧ a < k ∧ i = .int .i64 a ∧ Hid (l.drop (a + 1).toNat = f.drop (a + 1).toNat ∧ Below w.heap.size w wr)) (fun i _ => (intOf i + 1).toNat)
    case atStart =>
      refine ⟨(k : Int) - 1, by omega, by omega, rfl, Lib.hid ⟨?_, Below.refl _ _⟩⟩
      have h1 := H1.out.len
      have h2 := H2.out.len
      rw [show ((k : Int) - 1 + 1).toNat = k by omega, List.drop_of_length_le (by omega), List.drop_of_length_le (by omega)]
    case round =>
      obtain ⟨a, ha, ha2, rfl, HJ⟩ := hrel
      by_cases ha3 : 0 ≤ a
      · obtain ⟨a, rfl⟩ := Int.eq_ofNat_of_zero_le ha3
        obtain ⟨ad, rfl, hb1, hcell⟩ := (H1.out.below HJ.out.2).at_ (show a < k by omega)
        obtain ⟨ad2, rfl, hb2, hcell2⟩ := (H2.out.below HJ.out.2).at_ (show a < k by omega)
        by_cases hne : nth l a = nth f a
        · have hq : ((nth l a : Int) != (nth f a : Int)) = false := by simp [hne]
          have HNE := Lib.hid hne; clear hne
          go_wp2_with fail
          go_quiet (fail)
          go_wp2_with fail
          refine ⟨⟨(a : Int) - 1, by omega, by omega, by go_num, Lib.hid ⟨?_, below_drewN HJ.out.2 _⟩⟩, by simp [intOf]⟩
          have h0 := HJ.out.1
          have h1 : a < l.length := by have := H1.out.len; omega
          have h2 : a < f.length := by have := H2.out.len; omega
          rw [show ((a : Int) + 1).toNat = a + 1 by omega] at h0
          rw [show ((a : Int) - 1 + 1).toNat = a by omega, List.drop_eq_getElem_cons h1, List.drop_eq_getElem_cons h2, h0, ← nth_eq h1, ← nth_eq h2, HNE.out]
        · have hq : ((nth l a : Int) != (nth f a : Int)) = true := by simp; omega
          have HNE := Lib.hid hne; clear hne
          go_wp2_with fail
          go_quiet (fail)
          go_wp2_with fail
          go_quiet ((go_at_call 47; exact quiet_add_left (cmpU32_any _ _ _)))
          go_wp2_with fail
          go_ret
          refine ⟨ret_int ?_, below_drewN (below_drewN HJ.out.2 _) _⟩
          have h0 := HJ.out.1
          rw [show ((a : Int) + 1).toNat = a + 1 by omega] at h0
          have h1 := H1.out.len
          have h2 := H2.out.len
          rw [← N1.out.1, ← N2.out.1]
          have hne := HNE.out
          rcases Nat.lt_or_gt_of_ne hne with h | h
          · have := val_cmp (b := 4294967296) N1.out.2.1 (by omega) (by omega) h0 h
            simp [cmpN, h, this]
          · have := val_cmp (b := 4294967296) N2.out.2.1 (by omega) (by omega) h0.symm h
            simp [cmpN, h, this, Nat.not_lt_of_gt h, Nat.not_lt_of_gt this]
      · have ha4 : a = -1 := by omega
        subst ha4
        go_wp2_with fail
        go_ret
        refine ⟨ret_int ?_, HJ.out.2⟩
        have h0 := HJ.out.1
        simp only [show ((-1 : Int) + 1).toNat = 0 from rfl, List.drop_zero] at h0
        have h1 := N1.out.1
        have h2 := N2.out.1
        rw [h0] at h1
        simp [cmpN, ← h1, ← h2]
  · have hb : ((k : Int) != (j : Int)) = true := by simp; omega
    go_wp2_with fail
    refine (cmpInt_any _ _ _).mono ?_
    rintro e w3 ⟨rfl, rfl⟩
    have HKJ := Lib.hid hkj; clear hkj
    go_wp2_with fail
    go_ret
    refine ⟨ret_int ?_, Below.refl _ _⟩
    have h1 := H1.out.len
    have h2 := H2.out.len
    rcases Nat.lt_or_gt_of_ne HKJ.out with h | h
    · have := N1.out.len_lt N2.out (by omega) (by omega)
      simp [cmpN, cmpI, h, this]
    · have := N2.out.len_lt N1.out (by omega) (by omega)
      simp [cmpN, cmpI, h, this, Nat.not_lt_of_gt h, Nat.not_lt_of_gt this]

end Go.Proofs.Ytpnklmgfdihjfaa
namespace Go.Proofs.Ytpnklmgfdihjfaa
open Go.RowKit

theorem mk_nat (n : Nat) (hn : n ≤ 60000000000000) (W : World) : (Instr.makeSlice 29 (.int .i64 (n : Int)) (.int .i64 (n : Int))).run Try.prog W = .ok (.slice (some ⟨W.heap.size, 0, none⟩) n n) (W.alloc (.cells (urow (zer n)) 25)) := by
  obtain ⟨i, hi, hz, hs, hb⟩ := info_parts info_u32
  have h := run_make_rowN (P := Try.prog) 29 25 i (.int .u32 0) Try.underlying29 hi hz .i64 .i64 n n (Nat.le_refl _) (by rw [hb]; omega) (by omega) W
  rw [hs, Nat.mul_one] at h
  rw [h, zer, ← urow_make]; rfl

/-- The sum so far. -/
def AddInv (l f L : List Nat) (i c : Nat) : Prop := L.length = l.length + 1 ∧ (∀ d ∈ L, d < 4294967296) ∧ valB 4294967296 (L.take i) + 4294967296 ^ i * c = valB 4294967296 (l.take i) + valB 4294967296 (f.take i) ∧ c ≤ 1
theorem take_set_lt {L : List Nat} {i x : Nat} (h : i < L.length) : (L.set i x).take (i + 1) = L.take i ++ [x] := by
  rw [List.take_succ_eq_append_getElem (by simp; exact h)]
  simp only [List.getElem_set_self, List.take_set]
  rw [List.set_eq_of_length_le (by simp; omega)]
theorem mem_set {L : List Nat} {i x b : Nat} (h : ∀ d ∈ L, d < b) (hx : x < b) : ∀ d ∈ L.set i x, d < b := by
  intro d hd
  rcases List.mem_or_eq_of_mem_set hd with h1 | h1
  · exact h d h1
  · omega
theorem valB_snoc (b : Nat) (l : List Nat) (x : Nat) : valB b (l ++ [x]) = valB b l + b ^ l.length * x := by rw [valB_append, valB_single]
theorem AddInv.step {l f L : List Nat} {i c s : Nat} (h : AddInv l f L i c) (hi : i < l.length) (hl : ∀ d ∈ l, d < 4294967296) (hf : ∀ d ∈ f, d < 4294967296)
    (hs : s = c + nth l i + (if i < f.length then nth f i else 0)) : AddInv l f (L.set i (s % 4294967296)) (i + 1) (s / 4294967296) ∧ s < 8589934592 := by
  obtain ⟨h1, h2, h3, h4⟩ := h
  have d1 := hl _ (nth_mem hi)
  have d2 : (if i < f.length then nth f i else 0) < 4294967296 := by
    split
    · rename_i hlt; exact hf _ (nth_mem hlt)
    · omega
  have e1 := valB_take (b := 4294967296) hi
  have e2 : valB 4294967296 (f.take (i + 1)) = valB 4294967296 (f.take i) + 4294967296 ^ i * (if i < f.length then nth f i else 0) := by
    split
    · rename_i hlt; exact valB_take hlt
    · rw [List.take_of_length_le (by omega), List.take_of_length_le (by omega)]; simp
  have e3 : valB 4294967296 ((L.set i (s % 4294967296)).take (i + 1)) = valB 4294967296 (L.take i) + 4294967296 ^ i * (s % 4294967296) := by
    rw [take_set_lt (by omega), valB_snoc, List.length_take, Nat.min_eq_left (by omega)]
  refine ⟨⟨by rw [List.length_set]; exact h1, mem_set h2 (Nat.mod_lt _ (by omega)), ?_, by omega⟩, by omega⟩
  rw [e1, e2, e3, Nat.pow_succ]
  generalize hx : (if i < f.length then nth f i else 0) = x at *
  have hsx : 4294967296 ^ i * (s % 4294967296) + 4294967296 ^ i * 4294967296 * (s / 4294967296) = 4294967296 ^ i * s := by
    rw [Nat.mul_assoc, ← Nat.mul_add, Nat.mod_add_div]
  rw [Nat.add_assoc, hsx, hs, Nat.mul_add, Nat.mul_add]
  omega

set_option maxHeartbeats 4000000 in
theorem add_any (A : Option Addr) (ds : List Nat) (n c : Nat) (hc : n ≤ c) (B : Option Addr) (fs : List Nat) (m d : Nat) (hd : m ≤ d) (w : World) (hr : Es w w.heap.size A n ds) (hs : Es w w.heap.size B m fs) (hn : n ≤ 40000000000000) (hm : m ≤ 40000000000000) :
    Calls Try.prog 21 #[.slice A n c, .slice B m d] w (RetNat w (valB 4294967296 ds + valB 4294967296 fs)) := by
  have HR := Lib.hid hr; clear hr
  have HS := Lib.hid hs; clear hs
  go_enter Try.func21, Try.ntmps21
  go_wp2_with fail
  refine (trim_any A ds n c hc _ HR.out).mono ?_
  rintro e w1 ⟨k, l, rfl, hk, hl, hN, rfl⟩
  have H1 := Lib.hid hl; clear hl
  have N1 := Lib.hid hN; clear hN
  go_wp2_with fail
  refine (trim_any B fs m d hd _ HS.out).mono ?_
  rintro e w2 ⟨j, f, rfl, hj, hf, hM, rfl⟩
  have H2 := Lib.hid hf; clear hf
  have N2 := Lib.hid hM; clear hM
  go_upto_if 16 with (fail)
  go_cut [0, 1] (fun s0 s1 wx => ∃ (A' B' : Option Addr) (k' j' : Nat) (l' f' : List Nat), s0 = .slice A' k' k' ∧ s1 = .slice B' j' j' ∧ (j' ≤ k' ∧ k' ≤ 40000000000000) ∧ Hid (Es w w.heap.size A' k' l' ∧ Es w w.heap.size B' j' f' ∧ valB 4294967296 l' + valB 4294967296 f' = valB 4294967296 ds + valB 4294967296 fs) ∧ wx = w)
  case first =>
    by_cases hlt : k < j
    · go_wp2_with fail
      go_meet
      exact ⟨B, A, j, k, f, l, rfl, rfl, by omega, Lib.hid ⟨H2.out, H1.out, by rw [N1.out.1, N2.out.1, Nat.add_comm]⟩, rfl⟩
    · go_wp2_with fail
      go_meet
      exact ⟨A, B, k, j, l, f, rfl, rfl, by omega, Lib.hid ⟨H1.out, H2.out, by rw [N1.out.1, N2.out.1]⟩, rfl⟩
  case rest =>
    obtain ⟨A', B', k', j', l', f', rfl, rfl, ⟨hjk, hk6⟩, HI, rfl⟩ := hcut
    clear H1 N1 H2 N2 hk hj k j l f HR HS
    have hmk := mk_nat (k' + 1) (by omega)
    simp only [Int.natCast_add, Int.natCast_one] at hmk
    go_wp2_with fail
    clear hmk
    go_loopw [6, 7, 25] (fun cv _ i wr => ∃ (i' cr : Nat) (L : List Nat), i' ≤ k' ∧ cr ≤ 1 ∧ i = .int .i64 i' ∧ cv = .int .u64 cr ∧ Hid (AddInv l' f' L i' cr ∧ Blk wr wc.heap.size 25 (urow L) ∧ Below wc.heap.size wc wr)) (fun _ _ i _ => k' - (intOf i).toNat)
    case atStart =>
      refine ⟨0, 0, zer (k' + 1), Nat.zero_le _, by omega, rfl, rfl, Lib.hid ⟨⟨?_, ?_, ?_, by omega⟩, Blk.new _ _ _, al _ _⟩⟩
      · rw [zer_length, HI.out.1.len]
      · intro d hd
        have := List.eq_of_mem_replicate hd
        omega
      · simp [valB]
    case round =>
      obtain ⟨i, cr, L, hi, hcr, rfl, rfl, HJ⟩ := hrel
      by_cases hlt : i < k'
      · obtain ⟨ad, rfl, hb1, hcell⟩ := (HI.out.1.below HJ.out.2.2).at_ hlt
        have hli : i < l'.length := by have := HI.out.1.len; omega
        have hd1 := HI.out.1.lt hlt
        have hL : i < L.length := by rw [HJ.out.1.1]; omega
        have cR : wr.cell? ⟨wc.heap.size, i, none⟩ = some (.int .u32 (nth L i : Int)) := by rw [HJ.out.2.1.cell, urow_get hL]
        have fR : wr.frozen? ⟨wc.heap.size, i, none⟩ = false := HJ.out.2.1.frozen i
        clear hL
        by_cases hf : i < j'
        · obtain ⟨ad2, rfl, hb2, hcell2⟩ := (HI.out.2.1.below HJ.out.2.2).at_ hf
          have hfi : i < f'.length := by have := HI.out.2.1.len; omega
          have hd2 := HI.out.2.1.lt hf
          have hst := Lib.hid (HJ.out.1.step hli HI.out.1.2.2 HI.out.2.1.2.2 (s := cr + nth l' i + nth f' i) (by rw [if_pos hfi]))
          go_wp2_with fail
          refine ⟨⟨i + 1, (cr + nth l' i + nth f' i) / 4294967296, L.set i ((cr + nth l' i + nth f' i) % 4294967296), by omega, hst.out.1.2.2.2, by go_num, by simp, Lib.hid ⟨hst.out.1, ?_, HJ.out.2.2.setCell (Nat.le_refl _) _⟩⟩, by simp [intOf]; omega⟩
          have := HJ.out.2.1.set_ i (.int .u32 (((cr + nth l' i + nth f' i) % 4294967296 : Nat) : Int))
          rw [urow_set] at this
          simpa using this
        · have hfi : ¬ i < f'.length := by have := HI.out.2.1.len; omega
          have hst := Lib.hid (HJ.out.1.step hli HI.out.1.2.2 HI.out.2.1.2.2 (s := cr + nth l' i) (by rw [if_neg hfi]; omega))
          go_wp2_with fail
          refine ⟨⟨i + 1, (cr + nth l' i) / 4294967296, L.set i ((cr + nth l' i) % 4294967296), by omega, hst.out.1.2.2.2, by go_num, by simp, Lib.hid ⟨hst.out.1, ?_, HJ.out.2.2.setCell (Nat.le_refl _) _⟩⟩, by simp [intOf]; omega⟩
          have := HJ.out.2.1.set_ i (.int .u32 (((cr + nth l' i) % 4294967296 : Nat) : Int))
          rw [urow_set] at this
          simpa using this
      · obtain rfl : i = k' := by omega
        have hL : i < L.length := by rw [HJ.out.1.1, HI.out.1.len]; omega
        have cR : wr.cell? ⟨wc.heap.size, i, none⟩ = some (.int .u32 (nth L i : Int)) := by rw [HJ.out.2.1.cell, urow_get hL]
        have fR : wr.frozen? ⟨wc.heap.size, i, none⟩ = false := HJ.out.2.1.frozen i
        have HL := Lib.hid hL; clear hL
        go_wp2_with fail
        have hset := HJ.out.2.1.set_ i (.int .u32 ((cr : Nat) : Int))
        rw [urow_set] at hset
        have hlen : (L.set i cr).length = i + 1 := by rw [List.length_set, HJ.out.1.1, HI.out.1.len]
        have hE := Es.of_blk hset (by omega) (mem_set HJ.out.1.2.1 (by omega))
        rw [hlen] at hE
        have hv : valB 4294967296 (L.set i cr) = valB 4294967296 ds + valB 4294967296 fs := by
          have h1 : (L.set i cr).take (i + 1) = L.set i cr := List.take_of_length_le (by omega)
          rw [← h1, take_set_lt HL.out, valB_snoc, List.length_take, Nat.min_eq_left (by have := HL.out; omega), HJ.out.1.2.2.1, ← HI.out.2.2, List.take_of_length_le (by rw [HI.out.1.len]; omega), List.take_of_length_le (by have := HI.out.2.1.len; omega)]
        have hB := HJ.out.2.2.setCell (p := ⟨wc.heap.size, i, none⟩) (Nat.le_refl _) (.int .u32 (cr : Int))
        refine (trim_any _ _ (i + 1) (i + 1) (Nat.le_refl _) _ hE).mono ?_
        rintro e w3 ⟨k2, l2, rfl, hk2, hl2, hN2, rfl⟩
        rw [hv] at hN2
        have HE := Lib.hid hl2
        have HN := Lib.hid hN2
        have HBB := Lib.hid hB
        clear hl2 hN2 hB hE hset hv hlen
        go_wp2_with fail
        go_ret
        exact ⟨_, k2, k2, l2, rfl, Nat.le_refl _, HE.out, HN.out, HBB.out⟩

end Go.Proofs.Ytpnklmgfdihjfaa
namespace Go.Proofs.Ytpnklmgfdihjfaa
open Go.RowKit

/-- A row with spare cells behind it. -/
def urowX (L : List Nat) (X : List Value) : Array Value := (U32 L ++ X).toArray
theorem urowX_get {L : List Nat} {X : List Value} {k : Nat} (h : k < L.length) : (urowX L X)[k]? = some (.int .u32 (nth L k : Int)) := by
  simp only [urowX, List.getElem?_toArray]
  rw [List.getElem?_append_left (by rw [U32_length]; exact h)]
  simp [U32, nth, List.getD, h]
theorem urowX_set (L : List Nat) (X : List Value) (k x : Nat) (h : k < L.length) : (urowX L X).setIfInBounds k (.int .u32 (x : Int)) = urowX (L.set k x) X := by
  simp only [urowX, List.setIfInBounds_toArray]
  rw [List.set_append_left _ _ (by rw [U32_length]; exact h)]
  simp [U32, List.map_set]
theorem urow_X (L : List Nat) : urow L = urowX L [] := by simp [urow, urowX]
theorem Es.of_blkX {w : World} {g t : Nat} {l : List Nat} {X : List Value} (h : Blk w g t (urowX l X)) (hl : l.length ≤ 9223372036854775807) (hb : ∀ e ∈ l, e < 4294967296) : Es w w.heap.size (some ⟨g, 0, none⟩) l.length l :=
  ⟨⟨by simp [U32_length], fun _ => ⟨_, rfl, h.lt, fun j u hu => by
    have e : (Addr.add ⟨g, 0, none⟩ j) = ⟨g, j, none⟩ := by unfold Addr.add; split <;> simp_all
    rw [e, h.cell]
    simp only [urowX, List.getElem?_toArray]
    rw [List.getElem?_append_left ((List.getElem?_eq_some_iff.1 hu).1)]
    exact hu⟩⟩, ⟨rfl, hl⟩, hb⟩
theorem own_rowX {w : World} {base : Nat} {t : TypeId} {n : Nat} {v : Value} {L : List Nat} (h : w.ownsRow base t 1 v n (U32 L)) (hn : 0 < n) :
    ∃ g c X, v = .slice (some ⟨g, 0, none⟩) n c ∧ base ≤ g ∧ n ≤ c ∧ Blk w g t (urowX L X) ∧ L.length = n := by
  have hl := h.1
  rw [U32_length] at hl
  rcases h.2 with ⟨_, h0⟩ | ⟨g, cap, cur, rfl, hb, hh, hc, _, _, htk⟩
  · omega
  · refine ⟨g, cap, cur.toList.drop n, rfl, hb, hc, ?_, by omega⟩
    rw [Nat.mul_one] at htk
    have : cur = urowX L (cur.toList.drop n) := by
      simp only [urowX]
      rw [← htk, List.take_append_drop]
    unfold Blk
    rw [hh]
    exact congrArg (fun z => some (Obj.cells z t (0, 0))) this

/-- r * 2^32 + x as Go writes it. -/
theorem join32 (r x : Nat) (hr : r < 4294967296) (hx : x < 4294967296) : bits .or .u64 ((r : Int) * 4294967296) (x : Int) = ((r * 4294967296 + x : Nat) : Int) := by
  have h1 : ((r : Int) * 4294967296) = ((r * 4294967296 : Nat) : Int) := by simp
  rw [h1, u64_or_nat _ _ (by omega) (by omega), nat_join 32 _ _ (by omega) (by omega)]

/-- The quotient so far, from the top down to digit i. -/
def DivInv (p : Nat) (L0 L : List Nat) (d i r : Nat) : Prop := L.length = L0.length ∧ (∀ x ∈ L, x < p) ∧ r < d ∧ L.take i = L0.take i ∧ valB p (L.drop i) * d + r = valB p (L0.drop i)
theorem nth_of_take {L M : List Nat} {i k : Nat} (h : L.take i = M.take i) (hk : k < i) : nth L k = nth M k := by
  rw [← nth_take (l := L) hk, h, nth_take hk]
theorem DivInv.step {p : Nat} {L0 L : List Nat} {d i r s : Nat} (h : DivInv p L0 L d (i + 1) r) (hi : i < L0.length) (hp : ∀ x ∈ L0, x < p) (hs : s = r * p + nth L0 i) :
    DivInv p L0 (L.set i (s / d)) d i (s % d) ∧ s / d < p ∧ s < d * p := by
  obtain ⟨h1, h2, h3, h4, h5⟩ := h
  have d1 := hp _ (nth_mem hi)
  have hsd : s < d * p := by
    have : (r + 1) * p ≤ d * p := Nat.mul_le_mul_right p h3
    rw [Nat.add_mul] at this
    omega
  have hq : s / d < p := Nat.div_lt_of_lt_mul hsd
  refine ⟨⟨by rw [List.length_set]; exact h1, mem_set h2 hq, Nat.mod_lt _ (by omega), ?_, ?_⟩, hq, hsd⟩
  · rw [List.take_set, List.set_eq_of_length_le (by simp; omega)]
    have := congrArg (List.take i) h4
    rw [List.take_take, List.take_take, Nat.min_eq_left (by omega)] at this
    exact this
  · rw [valB_drop (by rw [List.length_set]; omega), valB_drop hi, nth_set (by omega), if_pos rfl]
    have e1 : (L.set i (s / d)).drop (i + 1) = L.drop (i + 1) := by
      rw [List.drop_set, if_pos (by omega)]
    rw [e1, ← h5]
    have e2 := Nat.div_add_mod s d
    have e3 : (s / d + p * valB p (L.drop (i + 1))) * d + s % d = d * (s / d) + s % d + p * (valB p (L.drop (i + 1)) * d) := by
      rw [Nat.add_mul, Nat.mul_comm (s / d) d, Nat.mul_assoc]; omega
    rw [e3, e2, hs, Nat.mul_add, Nat.mul_comm r p]
    omega

theorem quo_nat (s d : Nat) (h : s / d < 4294967296) : IntKind.u64.wrap ((s : Int).tdiv (d : Int)) % 4294967296 = ((s / d : Nat) : Int) := by
  have h1 : (s : Int).tdiv (d : Int) = ((s / d : Nat) : Int) := rfl
  rw [h1]
  simp only [IntKind.wrap, IntKind.bits, IntKind.signed]
  generalize s / d = q at *
  simp
  omega
theorem rem_nat (s d : Nat) : (s : Int).tmod (d : Int) = ((s % d : Nat) : Int) := by
  rw [Int.tmod_eq_emod_of_nonneg (by omega)]; simp

/-- divDigit's answer: the remainder; the row holds the quotient. -/
def RetDig (w : World) (g : Nat) (t : TypeId) (L0 : List Nat) (X : List Value) (d : Nat) (e : Ending) (w' : World) : Prop :=
  e = .returned (.int .u32 ((valB 4294967296 L0 % d : Nat) : Int)) ∧ ∃ L, L.length = L0.length ∧ (∀ x ∈ L, x < 4294967296) ∧ valB 4294967296 L = valB 4294967296 L0 / d ∧ Blk w' g t (urowX L X) ∧ w.grownBy w' (some g)

set_option maxHeartbeats 4000000 in
theorem divDigit_any (g : Nat) (L0 : List Nat) (X : List Value) (n c d : Nat) (w : World) (hn : n = L0.length) (hb : Blk w g 25 (urowX L0 X)) (hd0 : 0 < d) (hd : d < 4294967296) (hL : ∀ x ∈ L0, x < 4294967296) (hnn : n ≤ 1000000) :
    Calls Try.prog 96 #[.slice (some ⟨g, 0, none⟩) n c, .int .u32 d] w (RetDig w g 25 L0 X d) := by
  have HN := Lib.hid hn; clear hn
  have HL := Lib.hid hL; clear hL
  have HB := Lib.hid hb; clear hb
  go_enter Try.func96, Try.ntmps96
  go_wp2_with fail
  go_loopw [5, 6] (fun rv i wr => ∃ (i' r : Nat) (L : List Nat), i' ≤ n ∧ r < d ∧ i = .int .i64 ((i' : Int) - 1) ∧ rv = .int .u64 r ∧ Hid (DivInv 4294967296 L0 L d i' r ∧ Blk wr g 25 (urowX L X) ∧ w.grownBy wr (some g))) (fun _ i _ => (intOf i + 1).toNat)
  case atStart =>
    refine ⟨n, 0, L0, Nat.le_refl _, hd0, rfl, rfl, Lib.hid ⟨⟨rfl, HL.out, hd0, rfl, ?_⟩, HB.out, World.grownBy.refl w _⟩⟩
    rw [HN.out, List.drop_length]; simp [valB]
  case round =>
    obtain ⟨i, r, L, hi, hr, rfl, rfl, HJ⟩ := hrel
    by_cases h0 : 0 < i
    · obtain ⟨i, rfl⟩ : ∃ m, i = m + 1 := ⟨i - 1, by omega⟩
      have i0 : ((i + 1 : Nat) : Int) - 1 = (i : Int) := by omega
      rw [i0]
      have hli : i < L0.length := by have := HN.out; omega
      have hLl : i < L.length := by rw [HJ.out.1.1]; exact hli
      have hx : nth L i = nth L0 i := nth_of_take HJ.out.1.2.2.2.1 (by omega)
      have cR : wr.cell? ⟨g, i, none⟩ = some (.int .u32 (nth L0 i : Int)) := by rw [HJ.out.2.1.cell, urowX_get hLl, hx]
      have fR : wr.frozen? ⟨g, i, none⟩ = false := HJ.out.2.1.frozen i
      have hd1 := HL.out _ (nth_mem hli)
      have hst := Lib.hid (HJ.out.1.step hli HL.out rfl)
      have HLl := Lib.hid hLl
      clear hx hli hLl
      have hj := Lib.hid (join32 r (nth L0 i) (by omega) hd1)
      go_wp2_with fail
      rw [hj.out, quo_nat _ _ hst.out.2.1, rem_nat]
      refine ⟨⟨i, _, _, by omega, hst.out.1.2.2.1, rfl, rfl, Lib.hid ⟨hst.out.1, ?_, only_setCell HJ.out.2.2 (.inl rfl) _⟩⟩, by simp [intOf]⟩
      have := HJ.out.2.1.set_ i (.int .u32 (((r * 4294967296 + nth L0 i) / d : Nat) : Int))
      rwa [urowX_set _ _ _ _ HLl.out] at this
    · obtain rfl : i = 0 := by omega
      go_wp2_with fail
      go_ret
      have h1 := HJ.out.1
      obtain ⟨h1, h2, h3, h4, h5⟩ := HJ.out.1
      simp only [List.drop_zero] at h5
      have e1 : valB 4294967296 L = valB 4294967296 L0 / d := by
        rw [← h5, Nat.add_comm, Nat.add_mul_div_right _ _ hd0, Nat.div_eq_of_lt h3, Nat.zero_add]
      have e2 : r = valB 4294967296 L0 % d := by
        rw [← h5, Nat.add_comm, Nat.add_mul_mod_self_right, Nat.mod_eq_of_lt h3]
      refine ⟨ret_int ?_, L, h1, h2, e1, HJ.out.2.1, HJ.out.2.2⟩
      rw [e2]

/-- shiftLeft: one digit more. -/
def ShlInv (p q : Nat) (l L : List Nat) (i cr : Nat) : Prop := L.length = l.length + 1 ∧ (∀ d ∈ L, d < p) ∧ cr < q ∧ valB p (L.take i) + p ^ i * cr = valB p (l.take i) * q
theorem ShlInv.step {p q : Nat} {l L : List Nat} {i cr s : Nat} (h : ShlInv p q l L i cr) (hi : i < l.length) (hl : ∀ d ∈ l, d < p) (hs : s = cr + nth l i * q) : ShlInv p q l (L.set i (s % p)) (i + 1) (s / p) := by
  obtain ⟨h1, h2, h3, h4⟩ := h
  have d1 := hl _ (nth_mem hi)
  have hp : 0 < p := by omega
  have hsq : s < p * q := by
    have : (nth l i + 1) * q ≤ p * q := Nat.mul_le_mul_right q d1
    rw [Nat.add_mul] at this
    omega
  refine ⟨by rw [List.length_set]; exact h1, mem_set h2 (Nat.mod_lt _ hp), Nat.div_lt_of_lt_mul hsq, ?_⟩
  rw [take_set_lt (by omega), valB_snoc, List.length_take, Nat.min_eq_left (by omega), valB_take hi, Nat.add_mul, ← h4, Nat.pow_succ]
  have e1 : p ^ i * (s % p) + p ^ i * p * (s / p) = p ^ i * s := by rw [Nat.mul_assoc, ← Nat.mul_add, Nat.mod_add_div]
  rw [Nat.add_assoc, e1, hs, Nat.mul_add, Nat.mul_assoc]
  omega
theorem ShlInv.done {p q : Nat} {l L : List Nat} {cr : Nat} (h : ShlInv p q l L l.length cr) : valB p (L.set l.length cr) = valB p l * q := by
  obtain ⟨h1, h2, h3, h4⟩ := h
  have e : (L.set l.length cr).take (l.length + 1) = L.set l.length cr := List.take_of_length_le (by rw [List.length_set]; omega)
  rw [← e, take_set_lt (by omega), valB_snoc, List.length_take, Nat.min_eq_left (by omega), h4, List.take_length]

/-- The carry and the next digit shifted do not overlap. -/
theorem shl_join (cr x s : Nat) (hs : s < 32) (hc : cr < 2 ^ s) (hx : x < 4294967296) : bits .or .u64 (cr : Int) (IntKind.u64.wrap ((x : Int) * 2 ^ s)) = ((cr + x * 2 ^ s : Nat) : Int) := by
  have h2 : 2 ^ s ≤ 2 ^ 31 := two_pow_le (by omega)
  have h3 : x * 2 ^ s ≤ 4294967295 * 2147483648 := Nat.mul_le_mul (by omega) h2
  have e1 : IntKind.u64.wrap ((x : Int) * 2 ^ s) = ((x * 2 ^ s : Nat) : Int) := by
    rw [← cast_pow2, ← Int.natCast_mul]
    simp only [IntKind.wrap, IntKind.bits, IntKind.signed]
    generalize x * 2 ^ s = y at *
    simp
    omega
  rw [e1, u64_or_nat _ _ (by omega) (by omega), Nat.or_comm, nat_join s _ _ (Nat.mul_mod_left _ _) hc, Nat.add_comm]

/-- A new row, whole. -/
def RetRow (w : World) (t : TypeId) (n N : Nat) (e : Ending) (w' : World) : Prop :=
  ∃ L, e = .returned (.slice (some ⟨w.heap.size, 0, none⟩) n n) ∧ L.length = n ∧ (∀ d ∈ L, d < 4294967296) ∧ valB 4294967296 L = N ∧ Blk w' w.heap.size t (urow L) ∧ Below w.heap.size w w'

set_option maxHeartbeats 4000000 in
theorem shl_any (A : Option Addr) (l : List Nat) (n c s : Nat) (w : World) (hr : Es w w.heap.size A n l) (hn : n ≤ 1000000) (hs : s < 32) :
    Calls Try.prog 102 #[.slice A n c, .int .u64 s] w (RetRow w 25 (n + 1) (valB 4294967296 l * 2 ^ s)) := by
  have HR := Lib.hid hr; clear hr
  have hmk := mk_nat (n + 1) (by omega)
  simp only [Int.natCast_add, Int.natCast_one] at hmk
  have hq31 : 2 ^ s ≤ 2147483648 := two_pow_le (m := 31) (by omega)
  have hq0 := pow2_pos s
  go_enter Try.func102, Try.ntmps102
  go_wp2_with fail
  clear hmk
  go_loopw [6, 7, 14] (fun cv _ i wr => ∃ (i' cr : Nat) (L : List Nat), i' ≤ n ∧ cr < 4294967296 ∧ i = .int .i64 i' ∧ cv = .int .u64 cr ∧ Hid (ShlInv 4294967296 (2 ^ s) l L i' cr ∧ Blk wr w.heap.size 25 (urow L) ∧ Below w.heap.size w wr)) (fun _ _ i _ => n - (intOf i).toNat)
  case atStart =>
    refine ⟨0, 0, zer (n + 1), Nat.zero_le _, by omega, rfl, rfl, Lib.hid ⟨⟨?_, ?_, hq0, ?_⟩, Blk.new _ _ _, al _ _⟩⟩
    · rw [zer_length, HR.out.len]
    · intro d hd
      have := List.eq_of_mem_replicate hd
      omega
    · simp [valB]
  case round =>
    obtain ⟨i, cr, L, hi, hcr, rfl, rfl, HJ⟩ := hrel
    by_cases hlt : i < n
    · obtain ⟨ad, rfl, hb1, hcell⟩ := (HR.out.below HJ.out.2.2).at_ hlt
      have hli : i < l.length := by have := HR.out.len; omega
      have hd1 := HR.out.lt hlt
      have hL : i < L.length := by rw [HJ.out.1.1]; omega
      have cR : wr.cell? ⟨w.heap.size, i, none⟩ = some (.int .u32 (nth L i : Int)) := by rw [HJ.out.2.1.cell, urow_get hL]
      have fR : wr.frozen? ⟨w.heap.size, i, none⟩ = false := HJ.out.2.1.frozen i
      clear hL
      have hst := Lib.hid (HJ.out.1.step hli HR.out.2.2 rfl)
      have hj := Lib.hid (shl_join cr (nth l i) s hs HJ.out.1.2.2.1 hd1)
      go_wp2_with fail
      rw [hj.out]
      generalize cr + nth l i * 2 ^ s = sm at *
      have hset := HJ.out.2.1.set_ i (.int .u32 ((sm % 4294967296 : Nat) : Int))
      rw [urow_set] at hset
      refine ⟨⟨i + 1, sm / 4294967296, _, by omega, by have := hst.out.2.2.1; omega, by go_num, by simp, Lib.hid ⟨hst.out, ?_, HJ.out.2.2.setCell (Nat.le_refl _) _⟩⟩, by simp [intOf]; omega⟩
      simpa using hset
    · obtain rfl : i = n := by omega
      have hL : i < L.length := by rw [HJ.out.1.1, HR.out.len]; omega
      have cR : wr.cell? ⟨w.heap.size, i, none⟩ = some (.int .u32 (nth L i : Int)) := by rw [HJ.out.2.1.cell, urow_get hL]
      have fR : wr.frozen? ⟨w.heap.size, i, none⟩ = false := HJ.out.2.1.frozen i
      clear hL
      go_wp2_with fail
      go_ret
      have hset := HJ.out.2.1.set_ i (.int .u32 (cr : Int))
      rw [urow_set] at hset
      have h1 := HJ.out.1
      have hv : valB 4294967296 (L.set i cr) = valB 4294967296 l * 2 ^ s := by
        rw [HR.out.len] at h1 ⊢
        exact h1.done
      exact ⟨L.set i cr, rfl, by rw [List.length_set, HJ.out.1.1, HR.out.len], mem_set HJ.out.1.2.1 hcr, hv, hset, HJ.out.2.2.setCell (Nat.le_refl _) _⟩

/-- shiftRight, from the top down. -/
def ShrInv (p q : Nat) (l L : List Nat) (i : Nat) : Prop := L.length = l.length ∧ (∀ d ∈ L, d < p) ∧ valB p (L.drop i) = valB p (l.drop i) / q
theorem shr_digit {p q x y V : Nat} (hq : 0 < q) (hx : x < p) (hpq : p % q = 0) (hy : V % p = y) : (x + p * V) / q = (y * p + x) / q % p + p * (V / q) := by
  have hp : 0 < p := by omega
  obtain ⟨m, hm⟩ : ∃ m, p = q * m := ⟨p / q, by rw [Nat.mul_comm, Nat.div_mul_cancel (Nat.dvd_of_mod_eq_zero hpq)]⟩
  have hVR : V % q = y % q := by rw [← hy, hm, Nat.mod_mul_right_mod]
  have e1 : x + p * V = (x + p * (V % q)) + p * (V / q) * q := by
    have h : V = q * (V / q) + V % q := (Nat.div_add_mod V q).symm
    have h1 : p * V = p * (q * (V / q)) + p * (V % q) := by rw [← Nat.mul_add]; exact congrArg (p * ·) h
    rw [h1, Nat.mul_comm q, ← Nat.mul_assoc]
    omega
  have e2 : y * p + x = (x + p * (y % q)) + p * (y / q) * q := by
    have h : y = q * (y / q) + y % q := (Nat.div_add_mod y q).symm
    have h1 : p * y = p * (q * (y / q)) + p * (y % q) := by rw [← Nat.mul_add]; exact congrArg (p * ·) h
    rw [Nat.mul_comm y p, h1, Nat.mul_comm q, ← Nat.mul_assoc]
    omega
  have hlt : (x + p * (y % q)) / q < p := by
    apply Nat.div_lt_of_lt_mul
    have : y % q < q := Nat.mod_lt _ hq
    have h3 : p * (y % q + 1) ≤ p * q := Nat.mul_le_mul_left p this
    rw [Nat.mul_add] at h3
    rw [Nat.mul_comm q p]
    omega
  rw [e1, Nat.add_mul_div_right _ _ hq, hVR, e2, Nat.add_mul_div_right _ _ hq, Nat.add_mul_mod_self_left, Nat.mod_eq_of_lt hlt]
theorem valB_drop_mod {p : Nat} {l : List Nat} {i : Nat} (hl : ∀ d ∈ l, d < p) : valB p (l.drop i) % p = nth l i := by
  rcases Nat.lt_or_ge i l.length with h | h
  · rw [valB_drop h, Nat.add_mul_mod_self_left, Nat.mod_eq_of_lt (hl _ (nth_mem h))]
  · rw [List.drop_of_length_le h]
    simp [valB, nth, List.getD, List.getElem?_eq_none h]
theorem ShrInv.step {p q : Nat} {l L : List Nat} {i : Nat} (h : ShrInv p q l L (i + 1)) (hi : i < l.length) (hl : ∀ d ∈ l, d < p) (hq : 0 < q) (hpq : p % q = 0) :
    ShrInv p q l (L.set i ((nth l (i + 1) * p + nth l i) / q % p)) i := by
  obtain ⟨h1, h2, h3⟩ := h
  have d1 := hl _ (nth_mem hi)
  refine ⟨by rw [List.length_set]; exact h1, mem_set h2 (Nat.mod_lt _ (by omega)), ?_⟩
  rw [valB_drop (by rw [List.length_set]; omega), valB_drop hi, nth_set (by omega), if_pos rfl]
  have e1 : (L.set i ((nth l (i + 1) * p + nth l i) / q % p)).drop (i + 1) = L.drop (i + 1) := by
    rw [List.drop_set, if_pos (by omega)]
  rw [e1, h3, shr_digit hq d1 hpq (valB_drop_mod hl)]
theorem shr_val (h x : Nat) (hx : x < 4294967296) : bits .or .u64 (IntKind.u64.wrap ((h : Int) * 4294967296)) (x : Int) = ((h % 4294967296 * 4294967296 + x : Nat) : Int) := by
  have e1 : IntKind.u64.wrap ((h : Int) * 4294967296) = ((h % 4294967296 * 4294967296 : Nat) : Int) := by
    simp only [IntKind.wrap, IntKind.bits, IntKind.signed]
    simp
    omega
  rw [e1, u64_or_nat _ _ (by omega) (by omega), nat_join 32 _ _ (by omega) (by omega)]

set_option maxHeartbeats 4000000 in
theorem shr_any (A : Option Addr) (l : List Nat) (n c s : Nat) (w : World) (hr : Es w w.heap.size A n l) (hn : n ≤ 1000000) (hs : s < 32) :
    Calls Try.prog 106 #[.slice A n c, .int .u64 s] w (RetRow w 25 n (valB 4294967296 l / 2 ^ s)) := by
  have HR := Lib.hid hr; clear hr
  have hmk := mk_nat n (by omega)
  go_enter Try.func106, Try.ntmps106
  go_wp2_with fail
  clear hmk
  go_loopw [6, 7] (fun hv i wr => ∃ (i' h : Nat) (L : List Nat), i' ≤ n ∧ h < 18446744073709551616 ∧ i = .int .i64 ((i' : Int) - 1) ∧ hv = .int .u64 h ∧ Hid (h % 4294967296 = nth l i' ∧ ShrInv 4294967296 (2 ^ s) l L i' ∧ Blk wr w.heap.size 25 (urow L) ∧ Below w.heap.size w wr)) (fun _ i _ => (intOf i + 1).toNat)
  case atStart =>
    refine ⟨n, 0, zer n, Nat.le_refl _, by omega, rfl, rfl, Lib.hid ⟨?_, ⟨?_, ?_, ?_⟩, Blk.new _ _ _, al _ _⟩⟩
    · rw [HR.out.len]; simp [nth, List.getD]
    · rw [zer_length, HR.out.len]
    · intro d hd
      have := List.eq_of_mem_replicate hd
      omega
    · rw [List.drop_of_length_le (by rw [zer_length]; exact Nat.le_refl _), List.drop_of_length_le (by rw [HR.out.len]; exact Nat.le_refl _)]
      simp [valB]
  case round =>
    obtain ⟨i, h, L, hi, hh, rfl, rfl, HJ⟩ := hrel
    by_cases h0 : 0 < i
    · obtain ⟨i, rfl⟩ : ∃ m, i = m + 1 := ⟨i - 1, by omega⟩
      have i0 : ((i + 1 : Nat) : Int) - 1 = (i : Int) := by omega
      rw [i0]
      obtain ⟨ad, rfl, hb1, hcell⟩ := (HR.out.below HJ.out.2.2.2).at_ (show i < n by omega)
      have hli : i < l.length := by have := HR.out.len; omega
      have hd1 := HR.out.lt (show i < n by omega)
      have hL : i < L.length := by rw [HJ.out.2.1.1]; omega
      have cR : wr.cell? ⟨w.heap.size, i, none⟩ = some (.int .u32 (nth L i : Int)) := by rw [HJ.out.2.2.1.cell, urow_get hL]
      have fR : wr.frozen? ⟨w.heap.size, i, none⟩ = false := HJ.out.2.2.1.frozen i
      clear hL
      have hst := Lib.hid (HJ.out.2.1.step hli HR.out.2.2 (pow2_pos s) (Nat.mod_eq_zero_of_dvd (Nat.pow_dvd_pow 2 (show s ≤ 32 by omega))))
      have hj := Lib.hid (shr_val h (nth l i) hd1)
      go_wp2_with fail
      rw [hj.out, HJ.out.1]
      have hy : nth l (i + 1) < 4294967296 := by rw [← HJ.out.1]; exact Nat.mod_lt _ (by omega)
      have hset := HJ.out.2.2.1.set_ i (.int .u32 (((nth l (i + 1) * 4294967296 + nth l i) / 2 ^ s % 4294967296 : Nat) : Int))
      rw [urow_set] at hset
      have hst2 := hst.out
      obtain ⟨sm, hsm⟩ : ∃ sm, sm = nth l (i + 1) * 4294967296 + nth l i := ⟨_, rfl⟩
      rw [← hsm] at hset hst2 ⊢
      refine ⟨⟨i, sm, _, by omega, by omega, rfl, rfl, Lib.hid ⟨by omega, hst2, ?_, HJ.out.2.2.2.setCell (Nat.le_refl _) _⟩⟩, by simp [intOf]⟩
      have e : ((sm / 2 ^ s % 4294967296 : Nat) : Int) = (sm : Int) / 2 ^ s % 4294967296 := by simp
      rw [← e]
      exact hset
    · obtain rfl : i = 0 := by omega
      go_wp2_with fail
      go_ret
      obtain ⟨h1, h2, h3⟩ := HJ.out.2.1
      exact ⟨L, rfl, by rw [h1, HR.out.len], h2, by simpa using h3, HJ.out.2.2.1, HJ.out.2.2.2⟩

end Go.Proofs.Ytpnklmgfdihjfaa
