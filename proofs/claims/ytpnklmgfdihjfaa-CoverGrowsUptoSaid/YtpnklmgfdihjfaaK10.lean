/-
Appends onto own rows whose blocks hold no digits: all digits stay where they are.
law28.q and qs.
Contract of newTableau. Regions printed by gen/sx.py.
Contracts of simplex.nonnegative and law28.least. Regions printed by gen/sx.py.
Contract of simplex.dot. Regions printed by gen/sx.py.
Contracts of simplex.feasible and bounds. Regions printed by gen/sc.py.
Operations on problems and solutions: boxes, fields, makes, builds.
Rows of fractions and of Smalls; contracts of law28.qs and Rats. Regions printed by gen/sqs.py.
Contract of simplex.valid.
Contract of simplex.Check. Regions printed by gen/sch.py.
Contract of law28.of. Regions printed by gen/sof.py.
-/
import Derived.Test.YtpnklmgfdihjfaaK9
import Derived.Test.YtpnklmgfdihjfaaK5
namespace Go.Proofs.Ytpnklmgfdihjfaa
open Go.RowKit
set_option linter.unusedVariables false
set_option linter.unusedSimpArgs false

/-- No digit lies in the block of a row. -/
def Clean (w : World) (v : Value) : Prop := ∀ g, v.ownBlock = some g → ∀ (i : Nat) (x : Int), w.cell? ⟨g, i, none⟩ ≠ some (.int .u32 x)
def ClV (u : Value) : Prop := ∀ x : Int, u ≠ .int .u32 x
theorem clean_row {w : World} {g n c : Nat} {cur : Array Value} {e : TypeId} (hg : w.heap[g]? = some (.cells cur e (0, 0))) (h : ∀ u ∈ cur.toList, ClV u) : Clean w (.slice (some ⟨g, 0, none⟩) n c) := by
  intro g' hg' i x hx
  simp only [Value.ownBlock, Option.some.injEq] at hg'
  subst hg'
  rw [cell_of_row w g i cur e (0, 0) hg] at hx
  exact h _ (by simpa using Array.mem_of_getElem? hx) x rfl
theorem Clean.cur {w : World} {g n c : Nat} {cur : Array Value} {e : TypeId} (hc : Clean w (.slice (some ⟨g, 0, none⟩) n c)) (hg : w.heap[g]? = some (.cells cur e (0, 0))) : ∀ u ∈ cur.toList, ClV u := by
  intro u hu x hx
  obtain ⟨i, hi⟩ := List.mem_iff_getElem?.1 hu
  refine hc g rfl i x ?_
  rw [cell_of_row w g i cur e (0, 0) hg, ← hx]
  simpa using hi
theorem zero_mem {z : Array Value} {n : Nat} {u : Value} (h : u ∈ (Builtin.zeroCells z n).toList) : u ∈ z.toList := by
  simp only [Builtin.zeroCells, Array.mem_toList_iff, Array.mem_map, Array.mem_range] at h ⊢
  obtain ⟨a, h1, h2⟩ := h
  have hz : 0 < z.size := by
    rcases Nat.eq_zero_or_pos z.size with h0 | h0
    · rw [h0] at h1; omega
    · exact h0
  have hl := Nat.mod_lt a hz
  rw [getElem!_pos z _ hl] at h2
  rw [← h2]
  exact Array.getElem_mem hl
section
variable {P : Program} (w : World)
theorem run_append_clean (base : Nat) (t ty e : TypeId) (i : TypeInfo) (z : Value) (size bytes : Nat) (ht : P.underlying t = some (.slice e)) (hi : P.info? e = some i) (hz : i.zero = some z)
    (hsize : i.size = size) (hby : i.bytes = bytes) (hzs : z.cells.size = size) (hsz : 0 < size)
    (v : Value) (n : Nat) (xs : List Value) (hown : w.ownsRow base e size v n xs) (hcl : Clean w v) (hzc : ∀ u ∈ z.cells.toList, ClV u)
    (B : Nat) (A : Option Addr) (m c : Nat) (news : List Value) (hr : Reads w B size A m news) (h1 : ∀ u ∈ news, u.oneCell' = true) (hnc : ∀ u ∈ news, ClV u) (hxc : ∀ u ∈ xs, ClV u)
    (h63 : n + m ≤ maxLen) (hbytes : (n + m) * bytes ≤ 140737488355328) (hbase : base ≤ w.heap.size) :
    ∃ v' w', (Builtin.append_ #[t, t] ty #[v, .slice A m c]).run P w = .ok v' w' ∧ w'.ownsRow base e size v' (n + m) (xs ++ news) ∧ w.grownBy w' v.ownBlock ∧
      (v'.ownBlock = v.ownBlock ∨ v'.ownBlock = some w.heap.size) ∧ Clean w' v' ∧ KeepsN w w' := by
  obtain ⟨v', w', hrun, h2, h3, h4⟩ := run_append_any (P := P) w base t ty e i z size bytes ht hi hz hsize hby hzs hsz v n xs hown B A m c news hr h1 h63 hbytes hbase
  refine ⟨v', w', hrun, h2, h3, h4, ?_, h3.size, fun p x hp => ?_⟩
  · rcases A with _ | ad
    · have hm : m = 0 := by
        rcases Nat.eq_zero_or_pos m with h0 | h0
        · exact h0
        · obtain ⟨ad, h, _⟩ := hr.2 h0
          cases h
      subst hm
      rw [run_append_of_nil w base t ty e i size ht hi v n xs hown c] at hrun
      injection hrun with e1 e2
      subst e1; subst e2
      exact hcl
    · rcases Nat.eq_zero_or_pos m with h0 | h0
      · subst h0
        have hn : news = [] := List.eq_nil_of_length_eq_zero (by simpa using hr.1)
        subst hn
        subst hsize
        rcases hown.2 with ⟨rfl, rfl⟩ | ⟨g, cap, cur, rfl, hbg, hg, hnc', hcm, hcs, htake⟩
        · have hr0 : (Builtin.append_ #[t, t] ty #[.slice none 0 0, .slice (some ad) 0 c]).run P w = .ok (.slice none 0 0) w := by
            simp [Builtin.append_, run_underlying ht, sizeOf, typeInfo, hi, Builtin.lenOf, Builtin.firstCells, loadCells, loadCellsFrom]
          rw [hr0] at hrun
          injection hrun with e1 e2
          subst e1; subst e2
          exact hcl
        · have hr0 := run_append_room (P := P) w t ty e i ht hi g n cap cur hg ad 0 c [] (by simp) (by simp) (by simp) (by omega) (by simp; rw [hcs]; exact Nat.mul_le_mul_right _ hnc')
          rw [hr0] at hrun
          injection hrun with e1 e2
          subst e1; subst e2
          refine clean_row (setRow_heap w g cur _ e _ hg) ?_
          intro u hu
          have hc := hcl.cur hg
          simp at hu
          exact hc u (by simpa using hu)
      · obtain ⟨ad', h, _, hcells⟩ := hr.2 h0
        injection h with h
        subst h
        subst hsize
        have hl := hr.1
        rcases hown.2 with ⟨rfl, rfl⟩ | ⟨g, cap, cur, rfl, hbg, hg, hnc', hcm, hcs, htake⟩
        · have hr0 := run_append_nil (P := P) w t ty e i z ht hi hz ad m c news hl hcells h0 (by simp only [maxLen] at h63; omega) (by rw [hby]; have hb := hbytes; simp only [Nat.zero_add] at hb; omega)
          rw [hr0] at hrun
          injection hrun with e1 e2
          subst e1; subst e2
          refine clean_row (heap_alloc_new w.drew _) ?_
          intro u hu
          simp only [Array.toList_append, List.mem_append] at hu
          rcases hu with hu | hu
          · exact hnc u hu
          · exact hzc u (zero_mem hu)
        · by_cases hroom : n + m ≤ cap
          · have hfit : n * i.size + news.length ≤ cur.size := by rw [hl, hcs, ← Nat.add_mul]; exact Nat.mul_le_mul_right _ hroom
            have hr0 := run_append_room (P := P) w t ty e i ht hi g n cap cur hg ad m c news hl hcells h1 hroom hfit
            rw [hr0] at hrun
            injection hrun with e1 e2
            subst e1; subst e2
            refine clean_row (setRow_heap w g cur _ e _ hg) ?_
            intro u hu
            have hc := hcl.cur hg
            simp only [List.mem_append] at hu
            rcases hu with (hu | hu) | hu
            · exact hc u (List.mem_of_mem_take hu)
            · exact hnc u hu
            · exact hc u (List.mem_of_mem_drop hu)
          · have holds : ∀ j u, xs[j]? = some u → w.cell? ((⟨g, 0, none⟩ : Addr).add j) = some u := hown.cells (g := g) rfl
            have hr0 := run_append_grow (P := P) w t ty e i z ht hi hz ⟨g, 0, none⟩ n cap xs hown.1 holds ad m c news hl hcells (by omega) (by simp only [maxLen] at h63; omega) (growslice_fits (by omega) (by rw [hby]; exact hbytes))
            rw [hr0] at hrun
            injection hrun with e1 e2
            subst e1; subst e2
            refine clean_row (heap_alloc_new w.drew _) ?_
            intro u hu
            simp only [Array.toList_append, List.mem_append] at hu
            rcases hu with (hu | hu) | hu
            · exact hxc u hu
            · exact hnc u hu
            · exact hzc u (zero_mem hu)
  · by_cases hb : some p.block = v.ownBlock
    · exfalso
      have hlt := World.block_lt_of_cell? w p hp
      rcases hown.2 with ⟨rfl, rfl⟩ | ⟨g, cap, cur, rfl, hbg, hg, hnc', hcm, hcs, htake⟩
      · cases hb
      · simp only [Value.ownBlock, Option.some.injEq] at hb
        have hc := hcl.cur hg
        unfold World.cell? at hp
        rw [hb, hg] at hp
        simp only at hp
        split at hp
        · cases hp
        · exact hc (.int .u32 x) (by simpa using Array.mem_of_getElem? (by simpa using hp)) x rfl
    · exact h3.cell hp hb
/-- An own row without digits. -/
structure OwnC (w : World) (base : Nat) (e : TypeId) (size : Nat) (v : Value) (n : Nat) (xs : List Value) : Prop where
  own : w.ownsRow base e size v n xs
  cl : Clean w v
end
theorem OwnC.nil (w : World) (base : Nat) (e : TypeId) (size : Nat) : OwnC w base e size (.slice none 0 0) 0 [] := ⟨World.ownsRow_nil w base e size, fun g h => by cases h⟩
theorem OwnC.xs {w : World} {base : Nat} {e : TypeId} {size n : Nat} {v : Value} {xs : List Value} (h : OwnC w base e size v n xs) : ∀ u ∈ xs, ClV u := by
  rcases h.own.2 with ⟨rfl, rfl⟩ | ⟨g, cap, cur, rfl, hbg, hg, hnc', hcm, hcs, htake⟩
  · have hx : xs = [] := List.eq_nil_of_length_eq_zero (by simpa using h.own.1)
    subst hx
    intro u hu; cases hu
  · intro u hu
    rw [← htake] at hu
    exact h.cl.cur hg u (List.mem_of_mem_take hu)
theorem Clean.kept {w w' : World} {base : Nat} {e : TypeId} {size n : Nat} {v : Value} {xs : List Value} (h : Clean w v) (ho : w.ownsRow base e size v n xs) {row : Option Nat} (hg : w.grownBy w' row) (hne : v.ownBlock = none ∨ v.ownBlock ≠ row) : Clean w' v := by
  intro g hgv i x hx
  have hlt := (ho.lt g hgv).2
  have hb : some g ≠ row := by
    rcases hne with h0 | h0
    · rw [h0] at hgv; cases hgv
    · rw [← hgv]; exact h0
  rw [World.cell?_of_block (a := ⟨g, i, none⟩) (hg.block g hlt hb)] at hx
  exact h g hgv i x hx
theorem OwnC.kept {w w' : World} {base : Nat} {e : TypeId} {size n : Nat} {v : Value} {xs : List Value} (h : OwnC w base e size v n xs) {row : Option Nat} (hg : w.grownBy w' row) (hne : v.ownBlock = none ∨ v.ownBlock ≠ row) : OwnC w' base e size v n xs :=
  ⟨h.own.kept hg hne, h.cl.kept h.own hg hne⟩
theorem OwnC.below {w w' : World} {base : Nat} {e : TypeId} {size n : Nat} {v : Value} {xs : List Value} (h : OwnC w base e size v n xs) (hb : Below w.heap.size w w') : OwnC w' base e size v n xs := by
  refine ⟨own_below h.own hb, fun g hgv i x hx => ?_⟩
  have hlt := (h.own.lt g hgv).2
  rw [hb.cell (p := ⟨g, i, none⟩) hlt] at hx
  exact h.cl g hgv i x hx
theorem OwnC.alloc {w : World} {base : Nat} {e : TypeId} {size n : Nat} {v : Value} {xs : List Value} (h : OwnC w base e size v n xs) (o : Obj) : OwnC (w.alloc o) base e size v n xs := h.below (al w o)
/-- An own row of another element type is kept by an append, and so is a block. -/
theorem OwnC.beside {w w' : World} {base base' : Nat} {e e' : TypeId} {size n size' n' : Nat} {v v' : Value} {xs xs' : List Value} (h : OwnC w base e size v n xs) (h' : w.ownsRow base' e' size' v' n' xs') (hne : e ≠ e') (hg : w.grownBy w' v'.ownBlock) : OwnC w' base e size v n xs := by
  refine h.kept hg ?_
  rcases h.own.2 with ⟨rfl, rfl⟩ | ⟨g, cap, cur, rfl, hbg, hgc, _⟩
  · exact .inl rfl
  · right
    rcases h'.2 with ⟨rfl, rfl⟩ | ⟨g', cap', cur', rfl, hbg', hgc', _⟩
    · simp [Value.ownBlock]
    · simp only [Value.ownBlock, ne_eq, Option.some.injEq]
      intro he
      subst he
      rw [hgc] at hgc'
      injection hgc' with h1
      injection h1 with _ h2
      exact hne h2
theorem OwnC.blk {w w' : World} {base : Nat} {e t : TypeId} {size n g : Nat} {v : Value} {xs : List Value} {cs : Array Value} (h : OwnC w base e size v n xs) (hb : Blk w g t cs) (hne : e ≠ t) (hg : w.grownBy w' (some g)) : OwnC w' base e size v n xs := by
  refine h.kept hg ?_
  rcases h.own.2 with ⟨rfl, rfl⟩ | ⟨g', cap, cur, rfl, hbg, hgc, _⟩
  · exact .inl rfl
  · right
    simp only [Value.ownBlock, ne_eq, Option.some.injEq]
    intro he
    subst he
    exact Blk.ne_ (t := e) hgc hb hne rfl
section
variable {ops : Array Oper} {o : Oper} {a : Act} {w : World} {K : Act → World → Prop} {Q : Exit → Act → World → Prop} {E : Prop}
theorem wp_append_clean {P : Program} (s x : Operand) (t : TypeId)
    (ho : o.op = .call { callee := .builtin .append, args := #[s, x], argTypes := #[t, t] })
    (base : Nat) (e : TypeId) (i : TypeInfo) (z : Value) (size bytes : Nat) (ht : P.underlying t = some (.slice e)) (hi : P.info? e = some i) (hz : i.zero = some z)
    (hsize : i.size = size) (hby : i.bytes = bytes) (hzs : z.cells.size = size) (hsz : 0 < size) (hzc : ∀ u ∈ z.cells.toList, ClV u)
    (v : Value) (n : Nat) (xs : List Value) (hs : a.eval s = v) (hown : OwnC w base e size v n xs)
    (B : Nat) (A : Option Addr) (m c : Nat) (news : List Value) (hx : a.eval x = .slice A m c) (hr : Reads w B size A m news) (h1 : ∀ u ∈ news, u.oneCell' = true) (hnc : ∀ u ∈ news, ClV u)
    (h63 : n + m ≤ maxLen) (hbytes : (n + m) * bytes ≤ 140737488355328) (hbase : base ≤ w.heap.size)
    (h : ∀ v' w', OwnC w' base e size v' (n + m) (xs ++ news) → w.grownBy w' v.ownBlock → (v'.ownBlock = v.ownBlock ∨ v'.ownBlock = some w.heap.size) → KeepsN w w' → K (a.put o.dst v') w') : o.wp P a w K Q := by
  obtain ⟨v', w', hrun, h2, h3, h4, h5, h6⟩ := run_append_clean (P := P) w base t o.type e i z size bytes ht hi hz hsize hby hzs hsz v n xs hown.own hown.cl hzc B A m c news hr h1 hnc hown.xs h63 hbytes hbase
  unfold Oper.wp execOp
  simp only [ho, resolve, invoke, builtin, Sem.run_bind, Sem.run_pure, Result.andThen_ok, List.map_toArray, List.map_cons, List.map_nil, hs, hx, hrun]
  exact h v' w' ⟨h2, h5⟩ h3 h4 h6
theorem info_rats : (Try.prog.info? 28).map (fun i => (i.zero, i.size, i.bytes)) = some (some (.slice none 0 0), 1, 24) := by kernel_rfl
/-- A slice of Rats is put behind a row of such slices. -/
theorem wp_app_rows (s x : Operand) (ho : o.op = .call { callee := .builtin .append, args := #[s, x], argTypes := #[73, 73] })
    (base : Nat) (v : Value) (n : Nat) (xs : List Value) (hs : a.eval s = v) (hown : OwnC w base 28 1 v n xs) (g : Nat) (A : Option Addr) (k c : Nat) (hx : a.eval x = .slice (some ⟨g, 0, none⟩) 1 1) (hb : Blk w g 28 #[.slice A k c])
    (hk : n ≤ 1000000) (hbase : base ≤ w.heap.size)
    (h : ∀ v' w', OwnC w' base 28 1 v' (n + 1) (xs ++ [.slice A k c]) → w.grownBy w' v.ownBlock → (v'.ownBlock = v.ownBlock ∨ v'.ownBlock = some w.heap.size) → KeepsN w w' → K (a.put o.dst v') w') : o.wp Try.prog a w K Q := by
  obtain ⟨i, hi, hz, hs1, hby⟩ := info_parts info_rats
  have hr : Reads w w.heap.size 1 (some ⟨g, 0, none⟩) 1 [.slice A k c] := ⟨rfl, fun _ => ⟨_, rfl, hb.lt, fun j u hu => by
    rw [addr_zero, hb.cell]; simpa using hu⟩⟩
  refine wp_append_clean s x 73 ho base 28 i _ 1 24 Try.underlying73 hi hz hs1 hby rfl (by omega) (by intro u hu z hz'; simp [Value.cells] at hu; subst hu; cases hz') v n xs hs hown w.heap.size _ 1 1 _ hx hr (by simp; rfl) (by intro u hu z hz'; simp at hu; subst hu; cases hz') (by simp only [maxLen]; omega) (by omega) hbase h
/-- An int is put behind a row of ints. -/
theorem wp_app_ints (s x : Operand) (ho : o.op = .call { callee := .builtin .append, args := #[s, x], argTypes := #[45, 45] })
    (base : Nat) (v : Value) (n : Nat) (xs : List Value) (hs : a.eval s = v) (hown : OwnC w base 3 1 v n xs) (g : Nat) (y : Int) (hx : a.eval x = .slice (some ⟨g, 0, none⟩) 1 1) (hb : Blk w g 3 #[.int .i64 y])
    (hk : n ≤ 1000000) (hbase : base ≤ w.heap.size)
    (h : ∀ v' w', OwnC w' base 3 1 v' (n + 1) (xs ++ [.int .i64 y]) → w.grownBy w' v.ownBlock → (v'.ownBlock = v.ownBlock ∨ v'.ownBlock = some w.heap.size) → KeepsN w w' → K (a.put o.dst v') w') : o.wp Try.prog a w K Q := by
  obtain ⟨i, hi, hz, hs1, hby⟩ := info_parts info_int
  have hr : Reads w w.heap.size 1 (some ⟨g, 0, none⟩) 1 [.int .i64 y] := ⟨rfl, fun _ => ⟨_, rfl, hb.lt, fun j u hu => by
    rw [addr_zero, hb.cell]; simpa using hu⟩⟩
  refine wp_append_clean s x 45 ho base 3 i _ 1 8 Try.underlying45 hi hz hs1 hby rfl (by omega) (by intro u hu z hz'; simp [Value.cells] at hu; subst hu; cases hz') v n xs hs hown w.heap.size _ 1 1 _ hx hr (by simp; rfl) (by intro u hu z hz'; simp at hu; subst hu; cases hz') (by simp only [maxLen]; omega) (by omega) hbase h
/-- .. as a step of a region. -/
theorem app_rows {rest : List Oper} (hgd : o.guard = none) (s x : Operand) (ho : o.op = .call { callee := .builtin .append, args := #[s, x], argTypes := #[73, 73] })
    (base : Nat) (v : Value) (n : Nat) (xs : List Value) (hs : a.eval s = v) (hown : OwnC w base 28 1 v n xs) (g : Nat) (A : Option Addr) (k c : Nat) (hx : a.eval x = .slice (some ⟨g, 0, none⟩) 1 1) (hb : Blk w g 28 #[.slice A k c])
    (hk : n ≤ 1000000) (hbase : base ≤ w.heap.size)
    (h : ∀ v' w', OwnC w' base 28 1 v' (n + 1) (xs ++ [.slice A k c]) → w.grownBy w' v.ownBlock → (v'.ownBlock = v.ownBlock ∨ v'.ownBlock = some w.heap.size) → KeepsN w w' → wpList Try.prog ops Q rest (a.put o.dst v') w') : wpList Try.prog ops Q (o :: rest) a w :=
  wpList_plain hgd fun _ hK => wp_app_rows s x ho base v n xs hs hown g A k c hx hb hk hbase fun v' w' h2 h3 h4 h5 => hK _ _ (h v' w' h2 h3 h4 h5)
theorem step_app_ints (hgd : o.guard = none) (s x : Operand) (ho : o.op = .call { callee := .builtin .append, args := #[s, x], argTypes := #[45, 45] })
    (base : Nat) (v : Value) (n : Nat) (xs : List Value) (hs : a.eval s = v) (hown : OwnC w base 3 1 v n xs) (g : Nat) (y : Int) (hx : a.eval x = .slice (some ⟨g, 0, none⟩) 1 1) (hb : Blk w g 3 #[.int .i64 y])
    (hk : n ≤ 1000000) (hbase : base ≤ w.heap.size)
    (h : ∀ v' w', OwnC w' base 3 1 v' (n + 1) (xs ++ [.int .i64 y]) → w.grownBy w' v.ownBlock → (v'.ownBlock = v.ownBlock ∨ v'.ownBlock = some w.heap.size) → KeepsN w w' → K (a.put o.dst v') w') : if Region.wanted o (yielded ops a.tmps) = true then Oper.wp Try.prog o a w K Q else E := by
  rw [if_pos (by simp [Region.wanted, hgd])]
  exact wp_app_ints s x ho base v n xs hs hown g y hx hb hk hbase h
end
theorem RB.beside {w w' : World} {base g n : Nat} {e : TypeId} {size k : Nat} {v : Value} {xs : List Value} {P Q : Nat → Value → Prop} (h : RB w g n P) (ho : w.ownsRow base e size v k xs) (hne : e ≠ 31) (hg : w.grownBy w' v.ownBlock) (hq : ∀ j v, j < n → P j v → Q j v) : RB w' g n Q := by
  obtain ⟨cs, h1, h2⟩ := h
  exact ⟨cs, Blk.appended h1 ho hg hne, h2.mono hq⟩
/-- An element of a row is set. -/
theorem store_upd {o : Oper} {a : Act} {w : World} {t u : Tmp} {g n j b : Nat} {f : Nat → Rat} {x : Rat} {v : Value} {K : Act → World → Prop} {Q : Exit → Act → World → Prop} (ho : o.op = .store 31 (.tmp t) (.tmp u)) (hd : o.dst = none) (ht : a.eval (.tmp t) = .pointer (some (Addr.add ⟨g, 0, none⟩ (j * 3)))) (hu : a.eval (.tmp u) = v)
    (hr : RB w g n (PN w b f)) (hj : j < n) (hv : Rv b x v w) (next : ∀ w', KeepsN w w' → w.grownBy w' (some g) → w'.heap.size = w.heap.size → RB w' g n (PN w' b (upd f j x)) → K a w') : o.wp Try.prog a w K Q :=
  store_row ho hd ht hu hr hj hv.rw fun w' kp hg hs hR => next w' kp hg hs (hR (PN w' b (upd f j x)) (fun i u _ hne hp => by
    have h' : Rv b (f i) u w := hp
    show Rv b (upd f j x i) u w'
    rw [upd_ne f x hne]; exact h'.keepN kp) (by
    show Rv b (upd f j x j) v w'
    rw [upd_self]; exact hv.keepN kp))
end Go.Proofs.Ytpnklmgfdihjfaa
namespace Go.Proofs.Ytpnklmgfdihjfaa
open Go.RowKit
set_option linter.unusedVariables false
set_option linter.unusedSimpArgs false

end Go.Proofs.Ytpnklmgfdihjfaa
namespace Go.Proofs.Ytpnklmgfdihjfaa
open Go.RowKit
set_option linter.unusedVariables false
set_option linter.unusedSimpArgs false

/-- A problem in memory: the lists and what they hold. -/
structure PrW (w : World) (b n m k : Nat) (AC AA AB : Option Addr) (Ar : Nat → Option Addr) (ln cp : Nat → Nat) (A : Nat → Nat → Rat) (C B : Nat → Rat) : Prop where
  c : Rs w w.heap.size AC n (PW w b C)
  a : Reads w w.heap.size 1 AA m ((List.range m).map fun i => Value.slice (Ar i) (ln i) (cp i))
  row : ∀ i, i < m → Rs w w.heap.size (Ar i) (ln i) (PW w b (A i))
  bb : Rs w w.heap.size AB k (PW w b B)
section
variable {w w' : World} {b n m k : Nat} {AC AA AB : Option Addr} {Ar : Nat → Option Addr} {ln cp : Nat → Nat} {A : Nat → Nat → Rat} {C B : Nat → Rat}
theorem PrW.new (h : PrW w b n m k AC AA AB Ar ln cp A C B) (hb : Below w.heap.size w w') : PrW w' b n m k AC AA AB Ar ln cp A C B :=
  ⟨h.c.newW hb, (h.a.below hb).more hb.size, fun i hi => (h.row i hi).newW hb, h.bb.newW hb⟩
theorem PrW.at_ (h : PrW w b n m k AC AA AB Ar ln cp A C B) {i : Nat} (hi : i < m) : ∃ ad, AA = some ad ∧ ad.block < w.heap.size ∧ w.cell? (ad.add i) = some (.slice (Ar i) (ln i) (cp i)) := by
  obtain ⟨ad, e, hb, hc⟩ := h.a.2 (by omega)
  exact ⟨ad, e, hb, hc i _ (by rw [List.getElem?_map, List.getElem?_range hi]; rfl)⟩
end
section
variable {o : Oper} {a : Act} {w : World} {t u : Tmp}
theorem Blk.keep {w w' : World} {g : Nat} {t : TypeId} {cs : Array Value} (h : Blk w g t cs) (hb : Below w.heap.size w w') : Blk w' g t cs := h.below hb h.lt
theorem Blk.at0 {w w' : World} {g : Nat} {t : TypeId} {v : Value} {r : List Value} (h : Blk w g t (v :: r).toArray) (hb : Below w.heap.size w w') : w'.cell? ⟨g, 0, none⟩ = some v := by rw [(h.keep hb).cell]; rfl
theorem Blk.at1 {w w' : World} {g : Nat} {t : TypeId} {v0 v : Value} {r : List Value} (h : Blk w g t (v0 :: v :: r).toArray) (hb : Below w.heap.size w w') : w'.cell? ⟨g, 1, none⟩ = some v := by rw [(h.keep hb).cell]; rfl
theorem Blk.at2 {w w' : World} {g : Nat} {t : TypeId} {v0 v1 v : Value} {r : List Value} (h : Blk w g t (v0 :: v1 :: v :: r).toArray) (hb : Below w.heap.size w w') : w'.cell? ⟨g, 2, none⟩ = some v := by rw [(h.keep hb).cell]; rfl
theorem Blk.at3 {w w' : World} {g : Nat} {t : TypeId} {v0 v1 v2 v : Value} {r : List Value} (h : Blk w g t (v0 :: v1 :: v2 :: v :: r).toArray) (hb : Below w.heap.size w w') : w'.cell? ⟨g, 3, none⟩ = some v := by rw [(h.keep hb).cell]; rfl
theorem Blk.at4 {w w' : World} {g : Nat} {t : TypeId} {v0 v1 v2 v3 v : Value} {r : List Value} (h : Blk w g t (v0 :: v1 :: v2 :: v3 :: v :: r).toArray) (hb : Below w.heap.size w w') : w'.cell? ⟨g, 4, none⟩ = some v := by rw [(h.keep hb).cell]; rfl
theorem fld_prb {g k : Nat} (ho : o.op = .fieldAddr 75 (.tmp t) k) (hk : k < 3) (h : tv a t = .pointer (some ⟨g, 0, none⟩)) : gives Try.prog o a.eval w (fun v w' => v = .pointer (some ⟨g, k, none⟩) ∧ Below w.heap.size w w') := by
  refine gives_val (.pointer (some ⟨g, k, none⟩)) ?_ ⟨rfl, Below.refl _ _⟩
  have : k = 0 ∨ k = 1 ∨ k = 2 := by omega
  rcases this with rfl | rfl | rfl <;> (unfold execOp; rw [ho]; simp only [eval_tmp, h]; go_simp)
theorem load_prb {g : Nat} {v0 v1 v2 : Value} (ho : o.op = .load 75 (.tmp t)) (hx : tv a t = .pointer (some ⟨g, 0, none⟩)) (hb : Blk w g 75 #[v0, v1, v2]) : gives Try.prog o a.eval w (fun v w' => v = .agg #[v0, v1, v2] ∧ Below w.heap.size w w') :=
  gives_load_blk 75 (.tmp t) ho g 75 #[v0, v1, v2] _ hx hb Try.underlying75 rfl (by kernel_rfl) ⟨rfl, Below.refl _ _⟩
end
theorem OwnC.drew {w : World} {base : Nat} {e : TypeId} {size n : Nat} {v : Value} {xs : List Value} (h : OwnC w base e size v n xs) : OwnC w.drew base e size v n xs := ⟨h.own, h.cl⟩
theorem basL_succ (b : Nat → Nat) (i : Nat) : basL b (i + 1) = basL b i ++ [.int .i64 (b i : Int)] := by simp [basL, List.range_succ]
theorem rowsL_succ (rs : Nat → Nat) (N i g : Nat) : rowsL (fun l => if l = i then g else rs l) N (i + 1) = rowsL rs N i ++ [.slice (some ⟨g, 0, none⟩) N N] := by
  simp only [rowsL, List.range_succ, List.map_append, List.map_cons, List.map_nil, if_pos]
  congr 1
  refine List.map_congr_left fun l hl => ?_
  rw [if_neg (by have := List.mem_range.1 hl; omega)]
/-- A tableau of which i rows and k basic columns are laid. -/
structure TabP (base : Nat) (w : World) (p n m N b i k : Nat) (Ar : Option Addr) (cr : Nat) (Ab : Option Addr) (cb : Nat) (rs : Nat → Nat) (T : Nat → Nat → Rat) : Prop where
  blk : Blk w p 116 #[.int .i64 n, .int .i64 m, .slice Ar i cr, .slice none 0 0, .slice Ab k cb]
  rows : OwnC w base 28 1 (.slice Ar i cr) i (rowsL rs N i)
  row : ∀ l, l < i → RB w (rs l) N (PN w b (T l))
  bas : OwnC w base 3 1 (.slice Ab k cb) k (basL (fun l => n + l) k)
  low : base ≤ p ∧ base ≤ w.heap.size ∧ N = n + m + 2
section
variable {base : Nat} {w w' : World} {p n m N b i k cr cb : Nat} {Ar Ab : Option Addr} {rs : Nat → Nat} {T : Nat → Nat → Rat}
theorem TabP.new (h : TabP base w p n m N b i k Ar cr Ab cb rs T) (hb : Below w.heap.size w w') : TabP base w' p n m N b i k Ar cr Ab cb rs T :=
  ⟨h.blk.below hb h.blk.lt, h.rows.below hb, fun l hl => (h.row l hl).newN hb, h.bas.below hb, h.low.1, Nat.le_trans h.low.2.1 hb.size, h.low.2.2⟩
theorem TabP.c0 (h : TabP base w p n m N b i k Ar cr Ab cb rs T) : w.cell? ⟨p, 0, none⟩ = some (.int .i64 (n : Int)) := by rw [h.blk.cell]; rfl
theorem TabP.c2 (h : TabP base w p n m N b i k Ar cr Ab cb rs T) : w.cell? ⟨p, 2, none⟩ = some (.slice Ar i cr) := by rw [h.blk.cell]; rfl
theorem TabP.c4 (h : TabP base w p n m N b i k Ar cr Ab cb rs T) : w.cell? ⟨p, 4, none⟩ = some (.slice Ab k cb) := by rw [h.blk.cell]; rfl
/-- A store into a row of Rats that is not one of the tableau's. -/
theorem TabP.far (h : TabP base w p n m N b i k Ar cr Ab cb rs T) {g n' : Nat} {P : Nat → Value → Prop} (hb : RB w g n' P) (hne : ∀ l, l < i → rs l ≠ g) (kp : KeepsN w w') (hg : w.grownBy w' (some g)) : TabP base w' p n m N b i k Ar cr Ab cb rs T := by
  obtain ⟨cs, hc, -⟩ := hb
  refine ⟨h.blk.grown hg (fun e => ?_), h.rows.blk hc (by decide) hg, fun l hl => (h.row l hl).grown hg (hne l hl) (fun j v _ hv => PN.keep hv kp), h.bas.blk hc (by decide) hg, h.low.1, Nat.le_trans h.low.2.1 hg.size, h.low.2.2⟩
  injection e with e
  exact Blk.ne_ h.blk hc (by decide) e
theorem TabP.pushRow (h : TabP base w p n m N b i k Ar cr Ab cb rs T) {w1 : World} {g6 c9 : Nat} {A9 : Option Addr} (h6 : RB w g6 N (PN w b (T i))) (ho : OwnC w1 base 28 1 (.slice A9 (i + 1) c9) (i + 1) (rowsL rs N i ++ [.slice (some ⟨g6, 0, none⟩) N N])) (hg : w.grownBy w1 (Value.slice Ar i cr).ownBlock) (kp : KeepsN w w1) :
    Blk w1 p 116 #[.int .i64 n, .int .i64 m, .slice Ar i cr, .slice none 0 0, .slice Ab k cb] ∧ TabP base (w1.setCell ⟨p, 2, none⟩ (.slice A9 (i + 1) c9)) p n m N b (i + 1) k A9 c9 Ab cb (fun l => if l = i then g6 else rs l) T := by
  have hbk := Blk.appended h.blk h.rows.own hg (by decide)
  have hkp := kp.trans (KeepsN.blk hbk (i := 2) (by show 2 < 5; omega) (by intro x; simp) (.slice A9 (i + 1) c9))
  have hg2 := only_setCell (World.grownBy.refl w1 (some p)) (p := ⟨p, 2, none⟩) (.inl rfl) (.slice A9 (i + 1) c9)
  have hrb : ∀ {g' : Nat} {f' : Nat → Rat}, RB w g' N (PN w b f') → RB (w1.setCell ⟨p, 2, none⟩ (.slice A9 (i + 1) c9)) g' N (PN (w1.setCell ⟨p, 2, none⟩ (.slice A9 (i + 1) c9)) b f') := by
    intro g' f' hh
    have h1 := hh.beside (Q := PN w b f') h.rows.own (by decide) hg (fun j v _ hv => hv)
    refine h1.far ?_ (fun j v _ hv => PN.keep hv hkp)
    obtain ⟨cs, hb', _⟩ := h1
    exact Blk.ne_ hb' hbk (by decide)
  refine ⟨hbk, ⟨hbk.set_ 2 _, ?_, fun l hl => ?_, ?_, h.low.1, by rw [size_setCell]; exact Nat.le_trans h.low.2.1 hg.size, h.low.2.2⟩⟩
  · rw [rowsL_succ]
    exact ho.blk hbk (by decide) hg2
  · by_cases hli : l = i
    · subst hli
      simp only [if_pos]
      exact hrb h6
    · simp only [if_neg hli]
      exact hrb (h.row l (by omega))
  · exact (h.bas.beside h.rows.own (by decide) hg).blk hbk (by decide) hg2
theorem TabP.pushBas (h : TabP base w p n m N b i k Ar cr Ab cb rs T) {w1 : World} {c9 : Nat} {A9 : Option Addr} (ho : OwnC w1 base 3 1 (.slice A9 (k + 1) c9) (k + 1) (basL (fun l => n + l) k ++ [.int .i64 ((n + k : Nat) : Int)])) (hg : w.grownBy w1 (Value.slice Ab k cb).ownBlock) (kp : KeepsN w w1) :
    Blk w1 p 116 #[.int .i64 n, .int .i64 m, .slice Ar i cr, .slice none 0 0, .slice Ab k cb] ∧ TabP base (w1.setCell ⟨p, 4, none⟩ (.slice A9 (k + 1) c9)) p n m N b i (k + 1) Ar cr A9 c9 rs T := by
  have hbk := Blk.appended h.blk h.bas.own hg (by decide)
  have hkp := kp.trans (KeepsN.blk hbk (i := 4) (by show 4 < 5; omega) (by intro x; simp) (.slice A9 (k + 1) c9))
  have hg2 := only_setCell (World.grownBy.refl w1 (some p)) (p := ⟨p, 4, none⟩) (.inl rfl) (.slice A9 (k + 1) c9)
  refine ⟨hbk, ⟨hbk.set_ 4 _, (h.rows.beside h.bas.own (by decide) hg).blk hbk (by decide) hg2, fun l hl => ?_, ?_, h.low.1, by rw [size_setCell]; exact Nat.le_trans h.low.2.1 hg.size, h.low.2.2⟩⟩
  · have h1 := (h.row l hl).beside (Q := PN w b (T l)) h.bas.own (by decide) hg (fun j v _ hv => hv)
    refine h1.far ?_ (fun j v _ hv => PN.keep hv hkp)
    obtain ⟨cs, hb', _⟩ := h1
    exact Blk.ne_ hb' hbk (by decide)
  · rw [basL_succ]
    exact ho.blk hbk (by decide) hg2
end
/-- The row of a constraint while it is laid. -/
def rowF (A : Nat → Nat → Rat) (i j : Nat) : Nat → Rat := fun l => if l < j then A i l else 0
theorem rowF_next (A : Nat → Nat → Rat) (i j : Nat) : upd (rowF A i j) j (A i j) = rowF A i (j + 1) := by
  funext l
  by_cases hl : l = j
  · subst hl
    rw [upd_self]; exact (if_pos (by omega)).symm
  · rw [upd_ne _ _ hl]
    unfold rowF
    by_cases h : l < j
    · rw [if_pos h, if_pos (by omega)]
    · rw [if_neg h, if_neg (by omega)]
theorem rowF_tab (n m N : Nat) (hN : N = n + m + 2) (A : Nat → Nat → Rat) (B : Nat → Rat) (i : Nat) (hi : i < m) (l : Nat) (hl : l < N) : upd (upd (upd (rowF A i n) (n + i) 1) (n + m) (-1)) (n + m + 1) (B i) l = tab0 n m A B i l := by
  subst hN
  by_cases h1 : l = n + m + 1
  · subst h1
    rw [upd_self, tab0_right]
  · rw [upd_ne _ _ h1]
    by_cases h2 : l = n + m
    · subst h2
      rw [upd_self, tab0_art]
    · rw [upd_ne _ _ h2]
      by_cases h3 : l = n + i
      · subst h3
        rw [upd_self, tab0_slack hi, if_pos rfl]
      · rw [upd_ne _ _ h3]
        unfold rowF tab0
        by_cases h4 : l < n
        · rw [if_pos h4, if_pos h4]
        · rw [if_neg h4, if_neg h4, if_pos (by omega), if_neg h3]
def NtRet (n m N b : Nat) (A : Nat → Nat → Rat) (B : Nat → Rat) (w : World) (e : Ending) (w' : World) : Prop := ∃ (p cr cb : Nat) (Ar Ab : Option Addr) (rs : Nat → Nat), e = .returned (.pointer (some ⟨p, 0, none⟩)) ∧ Tab0 w.heap.size w' p n m N b none 0 0 Ar cr Ab cb rs (P1 n m A B) ∧ Below w.heap.size w w'
set_option maxRecDepth 100000 in
set_option maxHeartbeats 8000000 in
theorem newTableau_any (n m N b cC cA cB : Nat) (AC AA AB : Option Addr) (Ar : Nat → Option Addr) (ln cp : Nat → Nat) (A : Nat → Nat → Rat) (C B : Nat → Rat) (w : World) (hP : PrW w b n m m AC AA AB Ar ln cp A C B) (hl : ∀ i, i < m → ln i = n) (hN : N = n + m + 2) (hN2 : N ≤ 1000) (hb2 : 2 ≤ b) (hb0 : b ≤ 1000) :
    Calls Try.prog 64 #[.agg #[.slice AC n cC, .slice AA m cA, .slice AB m cB]] w (NtRet n m N b A B w) := by
  have HP := Lib.hid hP; clear hP
  have HL := Lib.hid hl; clear hl
  have hm1 : m ≤ 1000 := by omega
  have hnN : n < N := by omega
  have HN := Lib.hid hN; clear hN
  go_enter Try.func64, Try.ntmps64
  go_upto_region 1 with (fail)
  have TQ := Lib.hid (Blk.new w 75 #[.slice AC n cC, .slice AA m cA, .slice AB m cB])
  have HB := Lib.hid (al w (.cells #[.slice AC n cC, .slice AA m cA, .slice AB m cB] 75))
  generalize w.alloc (.cells #[.slice AC n cC, .slice AA m cA, .slice AB m cB] 75) = w1 at *
  have c0 : w1.cell? ⟨w.heap.size, 0, none⟩ = some (.slice AC n cC) := by rw [TQ.out.cell]; rfl
  have c1 : w1.cell? ⟨w.heap.size, 1, none⟩ = some (.slice AA m cA) := by rw [TQ.out.cell]; rfl
  have c2 : w1.cell? ⟨w.heap.size, 2, none⟩ = some (.slice AB m cB) := by rw [TQ.out.cell]; rfl
  obtain ⟨gq, hgq⟩ : ∃ gq, gq = w.heap.size := ⟨_, rfl⟩
  rw [← hgq] at TQ c0 c1 c2 ⊢
  have HGq := Lib.hid hgq; clear hgq
  go_upto_region 2 with (fail)
  have TQ2 := Lib.hid (TQ.out.below (al w1 (.cells #[.int .i64 n, .int .i64 m, .slice none 0 0, .slice none 0 0, .slice none 0 0] 116)) TQ.out.lt)
  have HB2 := Lib.hid (bthen HB.out (al w1 (.cells #[.int .i64 n, .int .i64 m, .slice none 0 0, .slice none 0 0, .slice none 0 0] 116)) HB.out.size)
  have HT2 := Lib.hid (show TabP w.heap.size (w1.alloc (.cells #[.int .i64 n, .int .i64 m, .slice none 0 0, .slice none 0 0, .slice none 0 0] 116)) w1.heap.size n m N b 0 0 none 0 none 0 (fun _ => 0) (tab0 n m A B) from
    ⟨Blk.new w1 116 _, OwnC.nil _ _ _ _, fun l hl => absurd hl (by omega), OwnC.nil _ _ _ _, HB.out.size, HB2.out.size, HN.out⟩)
  clear TQ HB c0 c1 c2
  generalize w1.alloc (.cells #[.int .i64 n, .int .i64 m, .slice none 0 0, .slice none 0 0, .slice none 0 0] 116) = w2 at *
  generalize w1.heap.size = p at *
  have d1 : w2.cell? ⟨gq, 1, none⟩ = some (.slice AA m cA) := by rw [TQ2.out.cell]; rfl
  go_wp2_with fail
  clear d1
  go_loopg [20] m (fun g iv wr => ∃ (i cr cb : Nat) (At Ab : Option Addr) (rs : Nat → Nat), iv = .int .i64 i ∧ i + g = m ∧ Hid (TabP w.heap.size wr p n m N b i i At cr Ab cb rs (tab0 n m A B) ∧ Blk wr gq 75 #[.slice AC n cC, .slice AA m cA, .slice AB m cB] ∧ Below w.heap.size w wr))
  case atStart => exact ⟨0, 0, 0, none, none, fun _ => 0, rfl, by omega, Lib.hid ⟨HT2.out, TQ2.out, HB2.out⟩⟩
  case round =>
    obtain ⟨i, cr, cb, At, Ab, rs, rfl, him, HI⟩ := hrel
    clear HT2 TQ2 HB2
    have HT := Lib.hid HI.out.1
    have HQ := Lib.hid HI.out.2.1
    have HB := Lib.hid HI.out.2.2
    clear HI
    obtain ⟨w3, hw3⟩ : ∃ w3, w3 = wr := ⟨_, rfl⟩
    subst hw3
    obtain ⟨G, hG⟩ : ∃ G, G = gk := ⟨_, rfl⟩
    subst hG
    by_cases hi : i < m
    · have i1 : ((i : Int) < (m : Int)) := by omega
      have hr0 := (HP.out.new HB.out).at_ hi
      rw [HL.out i hi] at hr0
      obtain ⟨ad, rfl, had, hr⟩ := hr0
      have hrow := (HP.out.new HB.out).row i hi
      rw [HL.out i hi] at hrow
      have HRW := Lib.hid ((HP.out.row i hi))
      rw [HL.out i hi] at HRW
      clear hrow had
      generalize Ar i = Ai at hr HRW
      generalize cp i = ci at hr
      go_upto_region 5 with (fail)
      clear hr
      refine wp_region_seq (kss := [[], [(0, 25)], [(1, 26)], [(2, 27)], [(3, 28)]]) [(3, .pointer (some ⟨p, 0, none⟩))] [EV (.pointer (some ⟨p, 0, none⟩)), EV (.int .i64 (((n + m + 1 : Nat) : Int))), EV (.int .i64 (((N : Nat) : Int))), fun v w' => ∃ g : Nat, v = .slice (some ⟨g, 0, none⟩) N N ∧ w3.heap.size ≤ g ∧ RB w' g N (PN w' 2 (fun _ => 0)), fun v w' => ∃ g : Nat, v = .slice (some ⟨g, 0, none⟩) N N ∧ w3.heap.size ≤ g ∧ RB w' g N (PN w' 2 (fun _ => 0))] (by kernel_rfl) ⟨rfl, trivial⟩ ?_ ?_ ?_
      · exact ⟨eI, eI, eI, fun _ _ _ ⟨g, h1, h2, h3⟩ hb => ⟨g, h1, h2, h3.newN hb⟩, fun _ _ _ ⟨g, h1, h2, h3⟩ hb => ⟨g, h1, h2, h3.newN hb⟩, trivial⟩
      · refine ⟨?_, ?_, ?_, ?_, ?_, trivial⟩
        · exact fun _ _ _ he hd => ob_mv rfl rfl he.1
        · exact fun aa ww hb he hd => ob_plain rfl (gives_call1 _ _ _ rfl (by kernel_rfl) (by rw [show aa.eval (.tmp 25) = .pointer (some ⟨p, 0, none⟩) from hd.1]; exact rv_one (right_any (TabP.new HT.out hb).blk (by omega) (by omega))))
        · exact fun aa ww hb he hd => ob_plain rfl (gives_add_nat (n + m + 1) 1 N rfl hd.1 rfl (by have := HN.out; omega) (by omega))
        · exact fun aa ww hb he hd => ob_plain rfl (gives_zeros rfl (hd.1) hN2 hb.size)
        · exact fun aa ww hb he hd => ob_plain rfl (gives_assign _ rfl ⟨hd.1, Below.refl _ _⟩)
      intro vs w4 hb hR
      have r6 := hR 4 (by decide)
      clear hR
      simp only [putsL, Nat.zero_add, Nat.reduceAdd, List.take_succ_cons, List.take_zero, Act.put, List.setIfInBounds_toArray, List.set_cons_zero, List.set_cons_succ]
      obtain ⟨g6, e6, hg6, hz6⟩ := (show ∃ g : Nat, vs 4 = .slice (some ⟨g, 0, none⟩) N N ∧ w3.heap.size ≤ g ∧ RB w4 g N (PN w4 2 (fun _ => 0)) from r6)
      rw [e6]
      clear r6 e6
      have HT4 := Lib.hid (HT.out.new hb)
      have HB4 := Lib.hid (bthen HB.out hb HB.out.size)
      have HQ4 := Lib.hid (HQ.out.keep hb)
      have HG6 := Lib.hid (show ∀ l, l < i → rs l ≠ g6 from fun l hl => by have := (HT.out.row l hl).lt; omega)
      have HG7 := Lib.hid (show w.heap.size ≤ g6 from Nat.le_trans HB.out.size hg6)
      have HR4 := Lib.hid (show RB w4 g6 N (PN w4 b (rowF A i 0)) from hz6.mono fun j v _ hv => by
        have h' : Rv 2 0 v w4 := hv
        show Rv b (rowF A i 0 j) v w4
        rw [show rowF A i 0 j = 0 from if_neg (by omega)]; exact h'.more hb2)
      clear hz6 hg6 hb
      go_wp2_with fail
      go_loopg [31] n (fun g iv wr => ∃ j : Nat, iv = .int .i64 j ∧ j + g = n ∧ Hid (TabP w.heap.size wr p n m N b i i At cr Ab cb rs (tab0 n m A B) ∧ RB wr g6 N (PN wr b (rowF A i j)) ∧ Blk wr gq 75 #[.slice AC n cC, .slice (some ad) m cA, .slice AB m cB] ∧ Below w.heap.size w wr))
      case atStart => exact ⟨0, rfl, by omega, Lib.hid ⟨HT4.out, HR4.out, HQ4.out, HB4.out⟩⟩
      case round =>
        obtain ⟨j, rfl, hjn, HI⟩ := hrel
        clear HT4 HR4 HQ4 HB4 HT HQ HB
        have HT := Lib.hid HI.out.1
        have HR := Lib.hid HI.out.2.1
        have HQ := Lib.hid HI.out.2.2.1
        have HB := Lib.hid HI.out.2.2.2
        clear HI
        obtain ⟨w6, hw6⟩ : ∃ w6, w6 = wr := ⟨_, rfl⟩
        subst hw6
        by_cases hj : j < n
        · have j1 : ((j : Int) < (n : Int)) := by omega
          obtain ⟨adr, -, -, -, -, -, -, -, rfl, -⟩ := HRW.out.at_ hj
          go_upto_region 8 with (fail)
          refine wp_region_joins (kss := [[], [], [(1, 34)], [], [(0, 33)]]) [(31, .int .i64 ((j : Int))), (29, .slice (some adr) n ci)] [EV (.int .i64 ((j : Int))), EV (.pointer (some (Addr.add adr (j * 3)))), Rw (b) ((A i) j), Zb w6.heap.size, EV (.int .i64 ((j : Int)))] 5 (by kernel_rfl) ⟨rfl, rfl, trivial⟩ [false, false, false, true, false] ?_ ?_ ?_
          · exact ⟨eI, eI, fun _ _ _ h hb => h.new hb, fun _ _ _ h hb => Zb.new h hb, eI, trivial⟩
          · refine ⟨?_, ?_, ?_, ?_, ?_, trivial⟩
            · exact fun _ _ _ he hd => ob_mv rfl rfl he.1
            · exact fun aa ww hb he hd => ob_plain rfl (idx_rs (by omega) rfl he.2.1 he.1)
            · exact fun aa ww hb he hd => ob_plain rfl (load_rw rfl hd.1 (Rs.newW HRW.out (bthen HB.out hb HB.out.size)) (by omega))
            · exact fun aa ww hb he hd => ⟨by simp [Region.wanted], alloc_rat rfl hb⟩
            · exact fun aa ww hb he hd => ob_plain rfl (gives_assign _ rfl ⟨hd.1, Below.refl _ _⟩)
          intro vs w7 hb hR
          have r35 : Rw (b) ((A i) j) (vs 2) w7 := hR 2 (by decide)
          have r8 : Zb w6.heap.size (vs 3) w7 := hR 3 (by decide)
          have e7 : vs 4 = .int .i64 ((j : Int)) := hR 4 (by decide)
          clear hR
          simp only [putsL, Nat.zero_add, Nat.reduceAdd, List.take_succ_cons, List.take_zero, Act.put, List.setIfInBounds_toArray, List.set_cons_zero, List.set_cons_succ]
          rw [e7]
          clear e7
          obtain ⟨g8, k8, z8⟩ := r8
          rw [k8]
          clear k8
          show wpOps _ _ _ [5] _ _
          refine wpOps_next rfl rfl (store_row (v := vs 2) (g := g8) (j := 0) (n := 1) (b := b) (x := A i j) rfl rfl rfl rfl z8.rb (by omega) r35 ?_)
          intro wa kp hg hsz hR8
          have HX := Lib.hid (RB.bx (hR8 (fun _ v => Rw b (A i j) v wa) (fun l u hl hne _ => absurd hl (by omega)) (r35.keepN kp)))
          have h68 : g6 ≠ g8 := by have := HR.out.lt; have := z8.1; omega
          have HTa := Lib.hid ((HT.out.new hb).far z8.rb (fun l hl => by have := (HT.out.row l hl).lt; have := z8.1; omega) kp hg)
          have HRa := Lib.hid ((HR.out.newN hb).grown hg h68 (fun j v _ hv => PN.keep hv kp))
          have HQa := Lib.hid ((HQ.out.keep hb).grown hg (fun e => by injection e with e; have := HQ.out.lt; have := z8.1; omega))
          have HBa := Lib.hid (show Below w.heap.size w wa from (bthen HB.out hb HB.out.size).grown hg (bthen HB.out hb HB.out.size).size (fun x hx => by cases hx; have := HB.out.size; have := z8.1; omega))
          clear hb kp hg hsz hR8 r35 z8 HT HR HQ HB
          have HT := HTa; have HR := HRa; have HB := HBa
          clear HTa HRa HBa
          show Exit.then _ _ _ _ _
          go_upto_region 9 with (fail)
          refine wp_region_joins (kss := [[], [], [], [(2, 38)], [(0, 36), (1, 37)]]) [(6, .slice (some (⟨g6, 0, none⟩)) N N), (7, .int .i64 ((j : Int))), (8, .pointer (some ⟨g8, 0, none⟩))] [EV (.slice (some (⟨g6, 0, none⟩)) N N), EV (.int .i64 ((j : Int))), Rw (b) (A i j), Rv (b) ((A i j)), EV (.pointer (some (Addr.add (⟨g6, 0, none⟩) (j * 3))))] 5 (by kernel_rfl) ⟨rfl, rfl, rfl, trivial⟩ [false, false, false, false, false] ?_ ?_ ?_
          · exact ⟨eI, eI, fun _ _ _ h hb => h.new hb, fun _ _ _ h hb => h.new hb, eI, trivial⟩
          · refine ⟨?_, ?_, ?_, ?_, ?_, trivial⟩
            · exact fun _ _ _ he hd => ob_mv rfl rfl he.1
            · exact fun _ _ _ he hd => ob_mv rfl rfl he.2.1
            · exact fun aa ww hb he hd => ob_plain rfl (load_bx rfl he.2.2.1 (Bx.new HX.out hb))
            · exact fun aa ww hb he hd => ob_plain rfl (gives_call1 _ _ _ rfl (by kernel_rfl) (norm_v (hd.1) (by omega)))
            · exact fun aa ww hb he hd => ob_plain rfl (idx_rs (by omega) rfl hd.1 hd.2.1)
          intro vs w8 hb hR
          have e40 : vs 4 = .pointer (some (Addr.add (⟨g6, 0, none⟩) (j * 3))) := hR 4 (by decide)
          have r39 : Rv (b) ((A i j)) (vs 3) w8 := hR 3 (by decide)
          clear hR
          simp only [putsL, Nat.zero_add, Nat.reduceAdd, List.take_succ_cons, List.take_zero, Act.put, List.setIfInBounds_toArray, List.set_cons_zero, List.set_cons_succ]
          rw [e40]
          clear e40
          show wpOps _ _ _ [5] _ _
          refine wpOps_next rfl rfl (store_upd (g := g6) (j := j) (b := b) (x := A i j) rfl rfl rfl rfl (RB.newN HR.out hb) (by omega) r39 ?_)
          intro wb kp hg hsz hRb
          rw [rowF_next] at hRb
          have HTb := Lib.hid ((HT.out.new hb).far (HR.out.newN hb) HG6.out kp hg)
          have HRb := Lib.hid hRb
          have HQb := Lib.hid ((HQa.out.keep hb).grown hg (fun e => by injection e with e; obtain ⟨cs, hc, -⟩ := HR.out; exact Blk.ne_ HQa.out hc (by decide) e))
          have HBb := Lib.hid (show Below w.heap.size w wb from (bthen HB.out hb HB.out.size).grown hg (bthen HB.out hb HB.out.size).size (fun x hx => by cases hx; exact HG7.out))
          clear hb kp hg hsz hRb r39
          unfold wpOps
          go_wp2_with fail
          go_roundg (gk - 1)
          case measure => omega
          case rel => exact ⟨j + 1, by go_num, by omega, Lib.hid ⟨HTb.out, HRb.out, HQb.out, HBb.out⟩⟩
        · obtain rfl : n = j := by omega
          go_upto_region 11 with (fail)
          have hsl : n + i < N := by have := HN.out; omega
          have har : n + m < N := by have := HN.out; omega
          have hrt : n + m + 1 < N := by have := HN.out; omega
          refine wp_region_join (kss := [[], [], [(1, 43)], [(2, 44)], [(3, 45)], [], [(4, 46), (5, 47)], [], [(0, 42), (6, 48)]]) [(6, .slice (some (⟨g6, 0, none⟩)) N N), (3, .pointer (some ⟨p, 0, none⟩)), (4, .int .i64 ((i : Int)))] [EV (.slice (some (⟨g6, 0, none⟩)) N N), EV (.pointer (some ⟨p, 0, none⟩)), EV (.pointer (some ⟨p, 0, none⟩)), EV (.pointer (some ⟨p, 0, none⟩)), EV (.int .i64 ((n : Int))), EV (.int .i64 ((i : Int))), EV (.int .i64 (((n + i : Nat) : Int))), Rv (2) (((1 : Int) : Rat)), EV (.pointer (some (Addr.add (⟨g6, 0, none⟩) ((n + i) * 3))))] 9 [] (by kernel_rfl) (by kernel_rfl) ⟨rfl, rfl, rfl, trivial⟩ [false, false, false, false, false, false, false, false, false] ?_ ?_ ?_ ?_
          · exact fun i hi => absurd hi (by simp)
          · exact ⟨eI, eI, eI, eI, eI, eI, eI, fun _ _ _ h hb => h.new hb, eI, trivial⟩
          · refine ⟨?_, ?_, ?_, ?_, ?_, ?_, ?_, ?_, ?_, trivial⟩
            · exact fun _ _ _ he hd => ob_mv rfl rfl he.1
            · exact fun _ _ _ he hd => ob_mv rfl rfl he.2.1
            · exact fun aa ww hb he hd => ob_plain rfl (nil_c rfl hd.1)
            · exact fun aa ww hb he hd => ob_plain rfl (fld_tab rfl (by decide) hd.1)
            · exact fun aa ww hb he hd => ob_plain rfl (load_c3 rfl hd.1 (TabP.new HT.out hb).c0)
            · exact fun _ _ _ he hd => ob_mv rfl rfl he.2.2.1
            · exact fun aa ww hb he hd => ob_plain rfl (gives_add_nat n i (n + i) rfl hd.1 hd.2.1 (by first | rfl | omega) (by omega))
            · exact fun aa ww hb he hd => ob_plain rfl (gives_call1 _ _ _ rfl (by kernel_rfl) (int_w (1) (by omega) (by omega) _ rfl _))
            · exact fun aa ww hb he hd => ob_plain rfl (idx_rs (by omega) rfl hd.1 hd.2.1)
          intro vs w7 hb hR _
          have e50 : vs 8 = .pointer (some (Addr.add (⟨g6, 0, none⟩) ((n + i) * 3))) := hR 8 (by decide)
          have r49 : Rv (2) (((1 : Int) : Rat)) (vs 7) w7 := hR 7 (by decide)
          clear hR
          simp only [putsL, Nat.zero_add, Nat.reduceAdd, List.take_succ_cons, List.take_zero, Act.put, List.setIfInBounds_toArray, List.set_cons_zero, List.set_cons_succ]
          rw [e50]
          clear e50
          have r49' : Rv b 1 (vs 7) w7 := by
            have h := r49
            rw [show ((1 : Int) : Rat) = 1 from by simp] at h
            exact Rv.more h hb2
          show wpAny _ _ _ _ 1 _ _ _
          refine wpAny_next (i := 9) (by kernel_rfl) rfl rfl (store_upd (v := vs 7) (g := g6) (j := n + i) (b := b) (x := 1) rfl rfl rfl rfl (HR.out.newN hb) hsl r49' ?_)
          intro w8 kp hg hsz hR8
          clear r49 r49'
          have HTn := Lib.hid ((HT.out.new hb).far (HR.out.newN hb) HG6.out kp hg)
          have HQn := Lib.hid ((HQ.out.keep hb).grown hg (fun e => by injection e with e; obtain ⟨cs, hc, -⟩ := HR.out; exact Blk.ne_ HQ.out hc (by decide) e))
          have HBn := Lib.hid (show Below w.heap.size w w8 from (bthen HB.out hb HB.out.size).grown hg (bthen HB.out hb HB.out.size).size (fun x hx => by cases hx; exact HG7.out))
          have HRn := Lib.hid hR8
          clear hb kp hg hsz hR8 HT HQ HB HR
          have HT := HTn; have HQ := HQn; have HB := HBn; have HR := HRn
          clear HTn HQn HBn HRn
          refine wpAny_end (by kernel_rfl) (calm_normal ?_) _
          go_upto_region 12 with (fail)
          refine wp_region_joins (kss := [[], [], [(1, 52)], [], [(0, 51), (2, 53)]]) [(6, .slice (some (⟨g6, 0, none⟩)) N N), (3, .pointer (some ⟨p, 0, none⟩))] [EV (.slice (some (⟨g6, 0, none⟩)) N N), EV (.pointer (some ⟨p, 0, none⟩)), EV (.int .i64 (((n + m : Nat) : Int))), Rv (2) (((-1 : Int) : Rat)), EV (.pointer (some (Addr.add (⟨g6, 0, none⟩) ((n + m) * 3))))] 5 (by kernel_rfl) ⟨rfl, rfl, trivial⟩ [false, false, false, false, false] ?_ ?_ ?_
          · exact ⟨eI, eI, eI, fun _ _ _ h hb => h.new hb, eI, trivial⟩
          · refine ⟨?_, ?_, ?_, ?_, ?_, trivial⟩
            · exact fun _ _ _ he hd => ob_mv rfl rfl he.1
            · exact fun _ _ _ he hd => ob_mv rfl rfl he.2.1
            · exact fun aa ww hb he hd => ob_plain rfl (gives_call1 _ _ _ rfl (by kernel_rfl) (by rw [show aa.eval (.tmp 52) = .pointer (some ⟨p, 0, none⟩) from hd.1]; exact rv_one (artificial_any (TabP.new HT.out hb).blk (by omega) (by omega))))
            · exact fun aa ww hb he hd => ob_plain rfl (gives_call1 _ _ _ rfl (by kernel_rfl) (int_w (-1) (by omega) (by omega) _ rfl _))
            · exact fun aa ww hb he hd => ob_plain rfl (idx_rs (by omega) rfl hd.1 hd.2.1)
          intro vs w9 hb hR
          have e55 : vs 4 = .pointer (some (Addr.add (⟨g6, 0, none⟩) ((n + m) * 3))) := hR 4 (by decide)
          have r54 : Rv (2) (((-1 : Int) : Rat)) (vs 3) w9 := hR 3 (by decide)
          clear hR
          simp only [putsL, Nat.zero_add, Nat.reduceAdd, List.take_succ_cons, List.take_zero, Act.put, List.setIfInBounds_toArray, List.set_cons_zero, List.set_cons_succ]
          rw [e55]
          clear e55
          have r54' : Rv b (-1) (vs 3) w9 := by
            have h := r54
            rw [show ((-1 : Int) : Rat) = -1 from by simp] at h
            exact Rv.more h hb2
          show wpOps _ _ _ [5] _ _
          refine wpOps_next rfl rfl (store_upd (v := vs 3) (g := g6) (j := n + m) (b := b) (x := -1) rfl rfl rfl rfl (HR.out.newN hb) har r54' ?_)
          intro wa kp hg hsz hR8
          clear r54 r54'
          have HTn := Lib.hid ((HT.out.new hb).far (HR.out.newN hb) HG6.out kp hg)
          have HQn := Lib.hid ((HQ.out.keep hb).grown hg (fun e => by injection e with e; obtain ⟨cs, hc, -⟩ := HR.out; exact Blk.ne_ HQ.out hc (by decide) e))
          have HBn := Lib.hid (show Below w.heap.size w wa from (bthen HB.out hb HB.out.size).grown hg (bthen HB.out hb HB.out.size).size (fun x hx => by cases hx; exact HG7.out))
          have HRn := Lib.hid hR8
          clear hb kp hg hsz hR8 HT HQ HB HR
          have HT := HTn; have HQ := HQn; have HB := HBn; have HR := HRn
          clear HTn HQn HBn HRn
          unfold wpOps
          have HBB := Lib.hid HP.out.bb
          obtain ⟨adb, -, -, -, -, -, -, -, rfl, -⟩ := HBB.out.at_ hi
          go_upto_region 13 with (fail)
          refine wp_region_join (kss := [[], [], [(1, 57)], [], [(3, 59)], [], [(4, 60), (5, 61)], [(6, 62)], [(7, 63)], [(0, 56), (2, 58)]]) [(6, .slice (some (⟨g6, 0, none⟩)) N N), (3, .pointer (some ⟨p, 0, none⟩)), (1, .pointer (some ⟨gq, 0, none⟩)), (4, .int .i64 ((i : Int)))] [EV (.slice (some (⟨g6, 0, none⟩)) N N), EV (.pointer (some ⟨p, 0, none⟩)), EV (.int .i64 (((n + m + 1 : Nat) : Int))), EV (.pointer (some ⟨gq, 2, none⟩)), EV (.slice (some adb) m cB), EV (.int .i64 ((i : Int))), EV (.pointer (some (Addr.add adb (i * 3)))), Rw (b) (B i), Rv (b) ((B i)), EV (.pointer (some (Addr.add (⟨g6, 0, none⟩) ((n + m + 1) * 3))))] 10 [] (by kernel_rfl) (by kernel_rfl) ⟨rfl, rfl, rfl, rfl, trivial⟩ [false, false, false, false, false, false, false, false, false, false] ?_ ?_ ?_ ?_
          · exact fun i hi => absurd hi (by simp)
          · exact ⟨eI, eI, eI, eI, eI, eI, eI, fun _ _ _ h hb => h.new hb, fun _ _ _ h hb => h.new hb, eI, trivial⟩
          · refine ⟨?_, ?_, ?_, ?_, ?_, ?_, ?_, ?_, ?_, ?_, trivial⟩
            · exact fun _ _ _ he hd => ob_mv rfl rfl he.1
            · exact fun _ _ _ he hd => ob_mv rfl rfl he.2.1
            · exact fun aa ww hb he hd => ob_plain rfl (gives_call1 _ _ _ rfl (by kernel_rfl) (by rw [show aa.eval (.tmp 57) = .pointer (some ⟨p, 0, none⟩) from hd.1]; exact rv_one (right_any (TabP.new HT.out hb).blk (by omega) (by omega))))
            · exact fun aa ww hb he hd => ob_plain rfl (fld_prb rfl (by decide) he.2.2.1)
            · exact fun aa ww hb he hd => ob_plain rfl (load_c28 rfl hd.1 (Blk.at2 HQ.out hb))
            · exact fun _ _ _ he hd => ob_mv rfl rfl he.2.2.2.1
            · exact fun aa ww hb he hd => ob_plain rfl (idx_rs (by omega) rfl hd.1 hd.2.1)
            · exact fun aa ww hb he hd => ob_plain rfl (load_rw rfl hd.1 (Rs.newW HBB.out (bthen HB.out hb HB.out.size)) (by omega))
            · exact fun aa ww hb he hd => ob_plain rfl (gives_call1 _ _ _ rfl (by kernel_rfl) (norm_v (hd.1) (by omega)))
            · exact fun aa ww hb he hd => ob_plain rfl (idx_rs (by omega) rfl hd.1 hd.2.1)
          intro vs wb hb hR _
          have e65 : vs 9 = .pointer (some (Addr.add (⟨g6, 0, none⟩) ((n + m + 1) * 3))) := hR 9 (by decide)
          have r64 : Rv (b) ((B i)) (vs 8) wb := hR 8 (by decide)
          clear hR
          simp only [putsL, Nat.zero_add, Nat.reduceAdd, List.take_succ_cons, List.take_zero, Act.put, List.setIfInBounds_toArray, List.set_cons_zero, List.set_cons_succ]
          rw [e65]
          clear e65
          show wpAny _ _ _ _ 1 _ _ _
          refine wpAny_next (i := 10) (by kernel_rfl) rfl rfl (store_upd (v := vs 8) (g := g6) (j := n + m + 1) (b := b) (x := B i) rfl rfl rfl rfl (HR.out.newN hb) hrt r64 ?_)
          intro wc kp hg hsz hR8
          clear r64
          have HTn := Lib.hid ((HT.out.new hb).far (HR.out.newN hb) HG6.out kp hg)
          have HQn := Lib.hid ((HQ.out.keep hb).grown hg (fun e => by injection e with e; obtain ⟨cs, hc, -⟩ := HR.out; exact Blk.ne_ HQ.out hc (by decide) e))
          have HBn := Lib.hid (show Below w.heap.size w wc from (bthen HB.out hb HB.out.size).grown hg (bthen HB.out hb HB.out.size).size (fun x hx => by cases hx; exact HG7.out))
          have HRn := Lib.hid hR8
          clear hb kp hg hsz hR8 HT HQ HB HR
          have HT := HTn; have HQ := HQn; have HB := HBn; have HR := HRn
          clear HTn HQn HBn HRn
          refine wpAny_end (by kernel_rfl) (calm_normal ?_) _
          have HRT := Lib.hid (HR.out.mono (Q := PN wc b (tab0 n m A B i)) (fun l v hl hv => by
            have h' : Rv b (upd (upd (upd (rowF A i n) (n + i) 1) (n + m) (-1)) (n + m + 1) (B i) l) v wc := hv
            rw [rowF_tab n m N HN.out A B i hi l hl] at h'
            exact h'))
          clear HR
          have c2 := HT.out.c2; have f2 := HT.out.blk.frozen 2; have pl := HT.out.blk.lt
          clear hsl har hrt
          go_upto_region 15 with (at_builtin; refine app_rows rfl _ _ rfl w.heap.size (.slice At i cr) i (rowsL rs N i) rfl (HT.out.rows.alloc _) wc.heap.size (some ⟨g6, 0, none⟩) N N rfl (Blk.new _ _ _) (by omega) (by have := HT.out.low.2.1; simp; omega) ?_; intro v' w14 ho hgr hor kp; obtain ⟨A9, c9, rfl⟩ := own_form ho.own; obtain ⟨hbk, hTn⟩ := (HT.out.new (al wc _)).pushRow (HRT.out.newN (al wc _)) ho hgr kp; clear c2 f2 pl; have c2 := Blk.at2 hbk (Below.refl _ _); have f2 := hbk.frozen 2; have pl := hbk.lt; have HTn := Lib.hid hTn; clear hTn hbk)
          have HBn := Lib.hid (show Below w.heap.size w (w14.setCell ⟨p, 2, none⟩ (.slice A9 (i + 1) c9)) from by
            have h1 := bthen HB.out (al wc (.cells #[.slice (some ⟨g6, 0, none⟩) N N] 28)) HB.out.size
            exact (Below.appended h1 (HT.out.rows.own.alloc _) hgr (by have := HT.out.low.2.1; simp; omega) (Nat.le_refl _)).setCell (p := ⟨p, 2, none⟩) HT.out.low.1 _)
          have HQn := Lib.hid (((HQ.out.keep (al wc _)).appended (HT.out.rows.own.alloc _) hgr (by decide)).far (p := ⟨p, 2, none⟩) (fun e => Blk.ne_ HQ.out HT.out.blk (by decide) e) (.slice A9 (i + 1) c9))
          clear HT HQ HB ho hgr hor kp c2 f2 pl HRT
          generalize w14.setCell ⟨p, 2, none⟩ (.slice A9 (i + 1) c9) = wd at *
          generalize hrs : (fun l => if l = i then g6 else rs l) = rs9 at *
          clear hrs
          have c0 := HTn.out.c0; have c4 := HTn.out.c4; have f4 := HTn.out.blk.frozen 4; have pl := HTn.out.blk.lt
          have HS := Lib.hid (show IntKind.i64.wrap ((n : Int) + (i : Int)) = ((n + i : Nat) : Int) from by rw [IntWalk.i64_in _ (by omega)]; push_cast; rfl)
          go_region_law (first
            | ((refine step_app_ints rfl _ _ rfl w.heap.size (.slice Ab i cb) i (basL (fun l => n + l) i) rfl (OwnC.drew (HTn.out.bas.alloc _)) wd.heap.size ((n + i : Nat) : Int) rfl (by rw [← HS.out]; exact Blk.drew (Blk.new _ _ _)) (by omega) (Nat.le_trans HTn.out.low.2.1 (al wd _).size) ?_; intro v' w15 ho hgr hor kp; obtain ⟨A8, c8, rfl⟩ := own_form ho.own; obtain ⟨hbk, hTm⟩ := (HTn.out.new (Below.drew (al wd _))).pushBas ho hgr kp; clear c4 f4 pl; have c4 := Blk.at4 hbk (Below.refl _ _); have f4 := hbk.frozen 4; have pl := hbk.lt; have HTm := Lib.hid hTm; clear hTm hbk)))
          all_goals
            have HBo := Lib.hid (show Below w.heap.size w (w15.setCell ⟨p, 4, none⟩ (.slice A8 (i + 1) c8)) from
              (Below.appended (bthen HBn.out (Below.drew (al wd (.cells #[.int .i64 (IntKind.i64.wrap ((n : Int) + (i : Int)))] 3))) HBn.out.size) (OwnC.drew (HTn.out.bas.alloc _)).own hgr (Nat.le_trans HTn.out.low.2.1 (al wd _).size) (Nat.le_refl _)).setCell (p := ⟨p, 4, none⟩) HTn.out.low.1 _)
            have HQo := Lib.hid (((HQn.out.keep (Below.drew (al wd _))).appended (OwnC.drew (HTn.out.bas.alloc _)).own hgr (by decide)).far (p := ⟨p, 4, none⟩) (fun e => Blk.ne_ HQn.out HTn.out.blk (by decide) e) (.slice A8 (i + 1) c8))
            clear ho hgr hor kp HTn HBn HQn
            go_wp2_with fail
            clear c0 c4 f4 pl
            go_roundg (G - 1)
            case measure => omega
            case rel => exact ⟨i + 1, c9, c8, A9, A8, rs9, by go_num, by omega, Lib.hid ⟨HTm.out, HQo.out, HBo.out⟩⟩
    · obtain rfl : m = i := by omega
      go_wp2_with fail
      go_ret
      exact ⟨p, cr, cb, At, Ab, rs, rfl, ⟨HT.out.blk, HT.out.rows.own, fun hi => HT.out.row _ hi, HT.out.bas.own, HT.out.low⟩, HB.out⟩
end Go.Proofs.Ytpnklmgfdihjfaa
namespace Go.Proofs.Ytpnklmgfdihjfaa
open Go.RowKit
set_option linter.unusedVariables false
set_option linter.unusedSimpArgs false

theorem sign_lt {x : Rat} : decide (x.num.sign < 0) = decide (x < 0) := by
  rcases sign_cases x with ⟨h1, h2⟩ | ⟨h1, h2⟩ | ⟨h1, h2⟩ <;> rw [h2]
  · rw [decide_eq_true (show x < 0 by grind)]; rfl
  · rw [decide_eq_false (show ¬ x < 0 by grind)]; rfl
  · rw [decide_eq_false (show ¬ x < 0 by grind)]; rfl
end Go.Proofs.Ytpnklmgfdihjfaa
namespace Go.Proofs.Ytpnklmgfdihjfaa
open Go.RowKit
set_option linter.unusedVariables false
set_option linter.unusedSimpArgs false

end Go.Proofs.Ytpnklmgfdihjfaa
namespace Go.Proofs.Ytpnklmgfdihjfaa
open Go.RowKit
set_option linter.unusedVariables false
set_option linter.unusedSimpArgs false

end Go.Proofs.Ytpnklmgfdihjfaa
namespace Go.Proofs.Ytpnklmgfdihjfaa
open Go.RowKit
set_option linter.unusedVariables false
set_option linter.unusedSimpArgs false

section
variable {o : Oper} {a : Act} {w : World} {t u : Tmp}
theorem RB.newW {w w' : World} {g n b : Nat} {f : Nat → Rat} (h : RB w g n (PW w b f)) (hb : Below w.heap.size w w') : RB w' g n (PW w' b f) := h.below hb fun _ _ _ hv => PW.keep hv (KeepsN.below hb)
theorem gives_built3 {ty : TypeId} {i j k : Nat} {x y z : Operand} {u v r : Value} {cells : Array Value} (ho : o.op = .build ty #[(i, x), (j, y), (k, z)]) (hx : a.eval x = u) (hy : a.eval y = v) (hz : a.eval z = r) (hf : Try.prog.built ty [(i, u), (j, v), (k, r)] = some cells) : gives Try.prog o a.eval w (fun v w' => v = .agg cells ∧ Below w.heap.size w w') := by
  refine gives_val (.agg cells) ?_ ⟨rfl, Below.refl _ _⟩
  have e : (#[(i, x), (j, y), (k, z)].map fun (i, x) => (i, a.eval x)).toList = [(i, u), (j, v), (k, r)] := by simp [hx, hy, hz]
  unfold execOp
  simp only [ho, Sem.run_bind]
  rw [run_build w ty _ cells (by rw [e]; exact hf)]
  rfl
theorem fld_sol {g k : Nat} (ho : o.op = .fieldAddr 79 (.tmp t) k) (hk : k < 5) (h : tv a t = .pointer (some ⟨g, 0, none⟩)) : gives Try.prog o a.eval w (fun v w' => v = .pointer (some ⟨g, k, none⟩) ∧ Below w.heap.size w w') := by
  refine gives_val (.pointer (some ⟨g, k, none⟩)) ?_ ⟨rfl, Below.refl _ _⟩
  have : k = 0 ∨ k = 1 ∨ k = 2 ∨ k = 3 ∨ k = 4 := by omega
  rcases this with rfl | rfl | rfl | rfl | rfl <;> (unfold execOp; rw [ho]; simp only [eval_tmp, h]; go_simp)
theorem load_sv {g b : Nat} {x : Rat} {v0 v1 v2 v3 : Value} {s : Bool} {A B : Option Addr} {k c m d : Nat} (ho : o.op = .load 31 (.tmp t)) (hx : tv a t = .pointer (some ⟨g, 4, none⟩)) (hb : Blk w g 79 #[v0, v1, v2, v3, .bool s, .slice A k c, .slice B m d]) (hv : Rw b x (.agg #[.bool s, .slice A k c, .slice B m d]) w) : gives Try.prog o a.eval w (fun v w' => Rw b x v w' ∧ Below w.heap.size w w') := by
  have hl := run_load_rat w ⟨g, 4, none⟩ (.bool s) (.slice A k c) (.slice B m d) (by rw [hb.cell]; rfl) (by show w.cell? ⟨g, 5, none⟩ = _; rw [hb.cell]; rfl) (by show w.cell? ⟨g, 6, none⟩ = _; rw [hb.cell]; rfl)
  refine gives_val (.agg #[.bool s, .slice A k c, .slice B m d]) ?_ ⟨hv, Below.refl _ _⟩
  unfold execOp
  rw [ho]
  simp only [eval_tmp, hx, Instr.loadAt, Instr.sureAddr, Sem.run_bind, Sem.run_pure, Result.andThen_ok, hl]
end
/-- Stored whole: a problem into its box. -/
theorem store_prb {o : Oper} {a : Act} {w : World} {t u : Tmp} {g : Nat} {v0 v1 v2 u0 u1 u2 : Value} {K : Act → World → Prop} {Q : Exit → Act → World → Prop} (ho : o.op = .store 75 (.tmp t) (.tmp u)) (hd : o.dst = none) (ht : a.eval (.tmp t) = .pointer (some ⟨g, 0, none⟩)) (hu : a.eval (.tmp u) = .agg #[u0, u1, u2])
    (hr : Blk w g 75 #[v0, v1, v2]) (hcl : ∀ u ∈ [v0, v1, v2], ∀ x, u ≠ .int .u32 x) (h1 : #[u0, u1, u2].all (·.oneCell') = true)
    (next : ∀ w', KeepsN w w' → w.grownBy w' (some g) → w'.heap.size = w.heap.size → Blk w' g 75 #[u0, u1, u2] → K a w') : o.wp Try.prog a w K Q := by
  refine wp_store_mid 75 (.tmp t) (.tmp u) ho g 0 #[u0, u1, u2] ht hu (fun i hi => ⟨?_, hr.frozen _⟩) (by kernel_rfl) h1 ?_
  · rw [hr.cell]
    have hi7 : i < 3 := by simpa using hi
    rw [Nat.zero_add, Array.getElem?_eq_getElem hi7]; rfl
  · rw [hd]
    have b0 : Blk (w.setCell ⟨g, 0, none⟩ u0) g 75 #[u0, v1, v2] := hr.set_ 0 u0
    have b1 : Blk ((w.setCell ⟨g, 0, none⟩ u0).setCell ⟨g, 1, none⟩ u1) g 75 #[u0, u1, v2] := b0.set_ 1 u1
    have b2 : Blk (((w.setCell ⟨g, 0, none⟩ u0).setCell ⟨g, 1, none⟩ u1).setCell ⟨g, 2, none⟩ u2) g 75 #[u0, u1, u2] := b1.set_ 2 u2
    have q0 : ∀ x, v0 ≠ .int .u32 x := hcl v0 (by simp)
    have q1 : ∀ x, v1 ≠ .int .u32 x := hcl v1 (by simp)
    have q2 : ∀ x, v2 ≠ .int .u32 x := hcl v2 (by simp)
    have kp := ((KeepsN.blk hr (i := 0) (by show 0 < 3; omega) (by intro x; simpa using q0 x) u0).trans
      (KeepsN.blk b0 (i := 1) (by show 1 < 3; omega) (by intro x; simpa using q1 x) u1)).trans
      (KeepsN.blk b1 (i := 2) (by show 2 < 3; omega) (by intro x; simpa using q2 x) u2)
    exact next _ kp (only_setCells _ _ _ (World.grownBy.refl w _)) (by show (((w.setCell _ _).setCell _ _).setCell _ _).heap.size = _; simp only [size_setCell]) b2
end Go.Proofs.Ytpnklmgfdihjfaa
namespace Go.Proofs.Ytpnklmgfdihjfaa
open Go.RowKit
set_option linter.unusedVariables false
set_option linter.unusedSimpArgs false

/-- The cells of a row of pairs. -/
def pr2 (u v : Nat → Value) : Nat → List Value
  | 0 => []
  | n + 1 => pr2 u v n ++ [u n, v n]
theorem pr2_length (u v : Nat → Value) : ∀ n, (pr2 u v n).length = n * 2
  | 0 => rfl
  | n + 1 => by rw [pr2, List.length_append, pr2_length u v n]; simp; omega
theorem pr2_at {u v : Nat → Value} : ∀ {n k : Nat}, k < n → (pr2 u v n)[k * 2]? = some (u k) ∧ (pr2 u v n)[k * 2 + 1]? = some (v k)
  | 0, k, h => by omega
  | n + 1, k, h => by
    have hl := pr2_length u v n
    by_cases hk : k < n
    · have h1 := pr2_at (u := u) (v := v) hk
      rw [pr2, List.getElem?_append_left (by omega), List.getElem?_append_left (by omega)]
      exact h1
    · obtain rfl : k = n := by omega
      rw [pr2, List.getElem?_append_right (by omega), List.getElem?_append_right (by omega), hl]
      simp [show k * 2 + 1 - k * 2 = 1 by omega]
section
variable {ops : Array Oper} {o : Oper} {a : Act} {w : World} {K : Act → World → Prop} {Q : Exit → Act → World → Prop} {E : Prop} {t : Tmp}
end
section
variable {o : Oper} {a : Act} {w : World} {t : Tmp}
end
/-- A row of Rats of a call's own. -/
def OR (w : World) (base : Nat) (v : Value) (n : Nat) (P : Nat → Value → Prop) : Prop := ∃ xs, OwnC w base 31 3 v n xs ∧ RL P n xs
theorem RL.nil (P : Nat → Value → Prop) : RL P 0 [] := ⟨rfl, fun j hj => absurd hj (by omega)⟩
theorem OR.nil (w : World) (base : Nat) (P : Nat → Value → Prop) : OR w base (.slice none 0 0) 0 P := ⟨[], OwnC.nil _ _ _ _, RL.nil _⟩
section
variable {w w' : World} {base n : Nat} {v : Value} {P Q : Nat → Value → Prop}
theorem OR.rs {A : Option Addr} {c : Nat} (h : OR w base (.slice A n c) n P) : Rs w w.heap.size A n P := by
  obtain ⟨xs, h1, h2⟩ := h
  exact ⟨xs, Reads.of_own h1.own, h2⟩
theorem OR.form (h : OR w base v n P) : ∃ A c, v = .slice A n c := by
  obtain ⟨xs, h1, h2⟩ := h
  exact own_form h1.own
theorem OR.below (h : OR w base v n P) (hb : Below w.heap.size w w') (hq : ∀ j u, j < n → P j u → Q j u) : OR w' base v n Q := by
  obtain ⟨xs, h1, h2⟩ := h
  exact ⟨xs, h1.below hb, h2.mono hq⟩
theorem OR.newN {b : Nat} {f : Nat → Rat} (h : OR w base v n (PN w b f)) (hb : Below w.heap.size w w') : OR w' base v n (PN w' b f) := h.below hb fun _ _ _ hv => PN.keep hv (KeepsN.below hb)
theorem OR.blk {t : TypeId} {g : Nat} {cs : Array Value} (h : OR w base v n P) (hb : Blk w g t cs) (hne : t ≠ 31) (hg : w.grownBy w' (some g)) (hq : ∀ j u, j < n → P j u → Q j u) : OR w' base v n Q := by
  obtain ⟨ys, h1, h2⟩ := h
  exact ⟨ys, h1.blk hb (Ne.symm hne) hg, h2.mono hq⟩
end
end Go.Proofs.Ytpnklmgfdihjfaa
namespace Go.Proofs.Ytpnklmgfdihjfaa
open Go.RowKit
set_option linter.unusedVariables false
set_option linter.unusedSimpArgs false

def VdRet (n m k : Nat) (ln : Nat → Nat) (w : World) (e : Ending) (w' : World) : Prop := ∃ t : Bool, e = .returned (.bool t) ∧ Below w.heap.size w w' ∧ (t = true ↔ m = k ∧ ∀ i, i < m → ln i = n)
set_option maxRecDepth 100000 in
set_option maxHeartbeats 8000000 in
theorem valid_any (n m k cC cA cB : Nat) (AC AA AB : Option Addr) (Ar : Nat → Option Addr) (ln cp : Nat → Nat) (w : World) (hA : Reads w w.heap.size 1 AA m ((List.range m).map fun i => Value.slice (Ar i) (ln i) (cp i))) (hm : m ≤ 1000000) :
    Calls Try.prog 63 #[.agg #[.slice AC n cC, .slice AA m cA, .slice AB k cB]] w (VdRet n m k ln w) := by
  have HA := Lib.hid hA; clear hA
  go_enter Try.func63, Try.ntmps63
  go_upto_region 1 with (fail)
  have T := Lib.hid (Blk.new w 75 #[.slice AC n cC, .slice AA m cA, .slice AB k cB])
  have HB := Lib.hid (al w (.cells #[.slice AC n cC, .slice AA m cA, .slice AB k cB] 75))
  generalize w.alloc (.cells #[.slice AC n cC, .slice AA m cA, .slice AB k cB] 75) = w1 at *
  have c0 : w1.cell? ⟨w.heap.size, 0, none⟩ = some (.slice AC n cC) := by rw [T.out.cell]; rfl
  have c1 : w1.cell? ⟨w.heap.size, 1, none⟩ = some (.slice AA m cA) := by rw [T.out.cell]; rfl
  have c2 : w1.cell? ⟨w.heap.size, 2, none⟩ = some (.slice AB k cB) := by rw [T.out.cell]; rfl
  by_cases hmk : m = k
  · subst hmk
    go_wp2_with fail
    go_loopg [15] m (fun q iv wr => ∃ i : Nat, iv = .int .i64 i ∧ i + q = m ∧ Hid (∀ l, l < i → ln l = n) ∧ wr = w1)
    case atStart => exact ⟨0, rfl, by omega, Lib.hid (fun l hl => absurd hl (by omega)), rfl⟩
    case round =>
      obtain ⟨i, rfl, him, HI, rfl⟩ := hrel
      by_cases hi : i < m
      · obtain ⟨ad, rfl, had, hcs⟩ := HA.out.2 (by omega)
        have hr0 := hcs i _ (by rw [List.getElem?_map, List.getElem?_range hi]; rfl)
        have hr : wr.cell? (ad.add i) = some (.slice (Ar i) (ln i) (cp i)) := (HB.out.cell (p := ad.add i) (by rw [show (ad.add i).block = ad.block from by unfold Addr.add; split <;> rfl]; exact had)).trans hr0
        clear hcs hr0
        have i1 : ((i : Int) < (m : Int)) := by omega
        have i0 : (0 : Int) ≤ (i : Int) := by omega
        by_cases hl : ln i = n
        · have h1 : ((ln i : Int) = (n : Int)) := by omega
          go_wp2_with fail
          go_roundg (gk - 1)
          case measure => omega
          case rel => exact ⟨i + 1, by go_num, by omega, Lib.hid (fun l hll => by
            by_cases hli : l = i
            · rw [hli]; exact hl
            · exact HI.out l (by omega)), rfl⟩
        · have h1 : ¬ ((ln i : Int) = (n : Int)) := by omega
          go_wp2_with fail
          go_ret
          exact ⟨false, rfl, HB.out, by simp; exact ⟨i, hi, hl⟩⟩
      · obtain rfl : m = i := by omega
        go_wp2_with fail
        go_ret
        exact ⟨true, rfl, HB.out, by simp; exact HI.out⟩
  · have h1 : ¬ ((m : Int) = (k : Int)) := by omega
    go_wp2_with fail
    go_ret
    exact ⟨false, rfl, HB.out, by simp; intro h; exact absurd h hmk⟩
end Go.Proofs.Ytpnklmgfdihjfaa
namespace Go.Proofs.Ytpnklmgfdihjfaa
open Go.RowKit
set_option linter.unusedVariables false
set_option linter.unusedSimpArgs false

theorem Rw.more {b b' : Nat} {x : Rat} {v : Value} {w : World} (h : Rw b x v w) (hb : b ≤ b') : Rw b' x v w := by
  obtain ⟨s, A, n, c, B, m, d, e, N, M, h1, h2, h3⟩ := h
  have hp : PB b ≤ PB b' := Nat.pow_le_pow_right (by decide) hb
  obtain ⟨a1, a2, a3, a4, a5⟩ := h1; obtain ⟨b1, b2, b3, b4, b5⟩ := h2
  exact ⟨s, A, n, c, B, m, d, e, N, M, ⟨a1, by omega, a3, by omega, a5⟩, ⟨b1, by omega, b3, by omega, b5⟩, h3⟩
end Go.Proofs.Ytpnklmgfdihjfaa
namespace Go.Proofs.Ytpnklmgfdihjfaa
open Go.RowKit
set_option linter.unusedVariables false
set_option linter.unusedSimpArgs false

/-- A list of rows. -/
abbrev rwL (Ar : Nat → Option Addr) (ln cp : Nat → Nat) (m : Nat) : List Value := (List.range m).map fun i => Value.slice (Ar i) (ln i) (cp i)
def put1 {α : Type} (f : Nat → α) (i : Nat) (x : α) : Nat → α := fun l => if l = i then x else f l
theorem put1_at {α : Type} (f : Nat → α) (i : Nat) (x : α) : put1 f i x i = x := if_pos rfl
theorem put1_ne {α : Type} (f : Nat → α) {i l : Nat} (x : α) (h : l ≠ i) : put1 f i x l = f l := if_neg h
section
variable {w w' : World} {n m k : Nat} {QC QA QB : Option Addr} {Qr : Nat → Option Addr} {ln qp : Nat → Nat} {A : Nat → Nat → Rat} {C B : Nat → Rat}
variable {PC PA PB : Option Addr} {Pr : Nat → Option Addr} {cp : Nat → Nat} {NC NB : Nat → Int} {DC DB : Nat → Nat} {NA : Nat → Nat → Int} {DA : Nat → Nat → Nat}
end
section
variable {base : Nat} {w w' : World} {n k iq iy g4 g5 : Nat} {QC QA QB YC YA YB : Option Addr} {qc qa qb yc ya yb : Nat} {Qr Yr : Nat → Option Addr} {qp yp ln : Nat → Nat} {A : Nat → Nat → Rat} {C B : Nat → Rat}
end
section
variable {base : Nat} {w w' : World} {n k iq iy g4 g5 : Nat} {QC QA QB YC YA YB : Option Addr} {qc qa qb yc ya yb : Nat} {Qr Yr : Nat → Option Addr} {qp yp ln : Nat → Nat} {A : Nat → Nat → Rat} {C B : Nat → Rat}
end
section
variable {o : Oper} {a : Act} {w : World} {t u : Tmp}
theorem gives_bs_rows {A : Option Addr} {k c : Nat} (ho : o.op = .buildSlice 73 1 #[(0, .tmp t)]) (h : tv a t = .slice A k c) : gives Try.prog o a.eval w (fun v w' => (∃ g, v = .slice (some ⟨g, 0, none⟩) 1 1 ∧ Blk w' g 28 #[.slice A k c]) ∧ Below w.heap.size w w') := by
  have hh : a.tmps[t]?.getD undef = .slice A k c := by simpa [tv] using h
  have hr : (execOp a.eval o).run Try.prog w = .ok (.value (.slice (some ⟨w.heap.size, 0, none⟩) 1 1)) (w.alloc (.cells #[.slice A k c] 28)) := by
    unfold execOp
    rw [ho]
    go_simp
  unfold gives
  rw [hr]
  exact ⟨⟨_, rfl, Blk.new _ _ _⟩, al _ _⟩
theorem wp_store_c29 {K : Act → World → Prop} {Q : Exit → Act → World → Prop} {p : Addr} {A : Option Addr} {n c : Nat} {v0 : Value} (ho : o.op = .store 73 (.tmp t) (.tmp u)) (hd : o.dst = none) (ht : tv a t = .pointer (some p)) (hu : tv a u = .slice A n c) (hc : w.cell? p = some v0) (hf : w.frozen? p = false) (h : K a (w.setCell p (.slice A n c))) : o.wp Try.prog a w K Q := by
  unfold Oper.wp execOp
  have h1 : a.tmps[t]?.getD undef = .pointer (some p) := by simpa [tv] using ht
  have h2 : a.tmps[u]?.getD undef = .slice A n c := by simpa [tv] using hu
  rw [ho]
  go_simp
  exact h
end
theorem fld_prb_w {o : Oper} {a : Act} {w : World} {t : Tmp} {g k : Nat} (ho : o.op = .fieldAddr 75 (.tmp t) k) (hk : k < 3) (h : tv a t = .pointer (some ⟨g, 0, none⟩)) : gives Try.prog o a.eval w (fun v w' => v = .pointer (some ⟨g, k, none⟩) ∧ w' = w) := by
  refine gives_val (.pointer (some ⟨g, k, none⟩)) ?_ ⟨rfl, rfl⟩
  have : k = 0 ∨ k = 1 ∨ k = 2 := by omega
  rcases this with rfl | rfl | rfl <;> (unfold execOp; rw [ho]; simp only [eval_tmp, h]; go_simp)
theorem OwnC.lower {w : World} {b b' : Nat} {e : TypeId} {size n : Nat} {v : Value} {xs : List Value} (h : OwnC w b e size v n xs) (hb : b' ≤ b) : OwnC w b' e size v n xs := by
  refine ⟨⟨h.own.1, ?_⟩, h.cl⟩
  rcases h.own.2 with h0 | ⟨g, cap, cur, h1, h2, h3⟩
  · exact .inl h0
  · exact .inr ⟨g, cap, cur, h1, Nat.le_trans hb h2, h3⟩
theorem OR.lower {w : World} {b b' n : Nat} {v : Value} {P : Nat → Value → Prop} (h : OR w b v n P) (hb : b' ≤ b) : OR w b' v n P := by
  obtain ⟨xs, h1, h2⟩ := h
  exact ⟨xs, h1.lower hb, h2⟩
end Go.Proofs.Ytpnklmgfdihjfaa
