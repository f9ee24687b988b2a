/-
  Rows of the call's own: small laws (no numbers of a seat).
-/
import Derived.Test.YtjofdlafblpclaaDoorBase
namespace Go.Proofs.YtjofdlafblpclaaDoor
open Go.RowKit

theorem own_form {w : World} {base : Nat} {e : TypeId} {size n : Nat} {v : Value} {xs : List Value} (h : w.ownsRow base e size v n xs) : ∃ A c, v = .slice A n c := by
  rcases h.2 with ⟨rfl, hn⟩ | ⟨g, cap, cur, rfl, _⟩
  · exact ⟨none, 0, by rw [hn]⟩
  · exact ⟨_, _, rfl⟩
theorem own_le {w : World} {base : Nat} {e : TypeId} {n : Nat} {v : Value} {xs : List Value} (h : w.ownsRow base e 1 v n xs) : n ≤ 9223372036854775807 := by
  rcases h.2 with ⟨_, hn⟩ | ⟨g, cap, cur, _, _, _, h1, h2, _⟩
  · omega
  · unfold maxLen at h2; omega
theorem Es.of_own {w : World} {base : Nat} {e : TypeId} {n : Nat} {v : Value} {L : List Nat} (h : w.ownsRow base e 1 v n (U32 L)) (hb : ∀ e ∈ L, e < 4294967296) : ∃ A c, v = .slice A n c ∧ Es w w.heap.size A n L := by
  obtain ⟨A, c, rfl⟩ := own_form h
  refine ⟨A, c, rfl, Reads.of_own h, ⟨?_, own_le h⟩, hb⟩
  have := h.1
  simpa [U32_length] using this.symm
theorem Xs.of_own {w : World} {base : Nat} {e : TypeId} {n : Nat} {v : Value} {L : List Int} (h : w.ownsRow base e 1 v n (I64 L)) (hb : ∀ x ∈ L, -9223372036854775808 ≤ x ∧ x ≤ 9223372036854775807) : ∃ A c, v = .slice A n c ∧ Xs w w.heap.size A n L := by
  obtain ⟨A, c, rfl⟩ := own_form h
  refine ⟨A, c, rfl, Reads.of_own h, ⟨?_, own_le h⟩, hb⟩
  have := h.1
  simpa [I64_length] using this.symm
theorem own_drewN {w : World} {base : Nat} {e : TypeId} {size n : Nat} {v : Value} {xs : List Value} (h : w.ownsRow base e size v n xs) (k : Nat) : (w.drewN k).ownsRow base e size v n xs := h
theorem own_empty (w : World) (e : TypeId) : (w.alloc (.cells #[] e)).ownsRow w.heap.size e 1 (.slice (some ⟨w.heap.size, 0, none⟩) 0 0) 0 [] :=
  ⟨rfl, .inr ⟨w.heap.size, 0, #[], rfl, Nat.le_refl _, heap_alloc_new w _, Nat.le_refl _, Nat.zero_le _, rfl, rfl⟩⟩
theorem one_U32 (l : List Nat) : ∀ u ∈ U32 l, u.oneCell' = true := by
  intro v hv; simp only [U32, List.mem_map] at hv; obtain ⟨_, _, rfl⟩ := hv; rfl
theorem one_I64 (l : List Int) : ∀ u ∈ I64 l, u.oneCell' = true := by
  intro v hv; simp only [I64, List.mem_map] at hv; obtain ⟨_, _, rfl⟩ := hv; rfl
theorem own_nil (w : World) (base : Nat) (e : TypeId) : w.ownsRow base e 1 (.slice none 0 0) 0 [] := ⟨rfl, .inl ⟨rfl, rfl⟩⟩
/-- A block of another element type keeps its cells over an append. -/
theorem Blk.appended {w w' : World} {g : Nat} {t e : TypeId} {cs : Array Value} {base size n : Nat} {v : Value} {xs : List Value} (h : Blk w g t cs) (hown : w.ownsRow base e size v n xs) (hg : w.grownBy w' v.ownBlock) (hne : e ≠ t) : Blk w' g t cs :=
  h.grown hg (fun he => own_blk_ne hown h hne he.symm)
theorem GB.appended {w w' : World} {g : Nat} {t e : TypeId} {x y : Value} {base size n : Nat} {v : Value} {xs : List Value} (h : GB w g t x y) (hown : w.ownsRow base e size v n xs) (hg : w.grownBy w' v.ownBlock) (hne : e ≠ t) : GB w' g t x y := Blk.appended h.blk hown hg hne
/-- A store into a block of another element type keeps an owned row. -/
theorem own_far {w : World} {g : Nat} {t e : TypeId} {cs : Array Value} {base size n : Nat} {v : Value} {xs : List Value} (h : w.ownsRow base e size v n xs) (hb : Blk w g t cs) (hne : e ≠ t) (i : Nat) (u : Value) : (w.setCell ⟨g, i, none⟩ u).ownsRow base e size v n xs := by
  refine ⟨h.1, ?_⟩
  rcases h.2 with h0 | ⟨g', cap, cur, rfl, h1, h2, h3⟩
  · exact .inl h0
  · have hgg : g' ≠ g := fun he => by
      subst he
      exact Blk.ne_ (t := e) h2 hb hne rfl
    exact .inr ⟨g', cap, cur, rfl, h1, (Below.heap_setCell w ⟨g, i, none⟩ u g' hgg).trans h2, h3⟩
theorem own_below {w w' : World} {e : TypeId} {base size n : Nat} {v : Value} {xs : List Value} (h : w.ownsRow base e size v n xs) (hb : Below w.heap.size w w') : w'.ownsRow base e size v n xs := by
  refine ⟨h.1, ?_⟩
  rcases h.2 with h0 | ⟨g', cap, cur, rfl, h1, h2, h3⟩
  · exact .inl h0
  · have hlt : g' < w.heap.size := Blk.lt' h2
    exact .inr ⟨g', cap, cur, rfl, h1, (hb.block g' hlt).trans h2, h3⟩
/-- A row is kept where only a block of another element type has changed. -/
theorem own_grown_ne {w w' : World} {g : Nat} {t e : TypeId} {cs : Array Value} {base size n : Nat} {v : Value} {xs : List Value} (h : w.ownsRow base e size v n xs) (hb : Blk w g t cs) (hg : w.grownBy w' (some g)) (hne : e ≠ t) : w'.ownsRow base e size v n xs := by
  refine ⟨h.1, ?_⟩
  rcases h.2 with h0 | ⟨g', cap, cur, rfl, h1, h2, h3⟩
  · exact .inl h0
  · have hgg : g' ≠ g := fun he => by
      subst he
      exact Blk.ne_ (t := e) h2 hb hne rfl
    exact .inr ⟨g', cap, cur, rfl, h1, (hg.block g' (Blk.lt' h2) (by simp; exact hgg)).trans h2, h3⟩
theorem own_base {w : World} {base : Nat} {e : TypeId} {size n : Nat} {v : Value} {xs : List Value} (h : w.ownsRow base e size v n xs) : ∀ k, v.ownBlock = some k → base ≤ k := by
  intro k hk
  rcases h.2 with ⟨rfl, _⟩ | ⟨g, cap, cur, rfl, hb, _⟩
  · simp [Value.ownBlock] at hk
  · simp [Value.ownBlock] at hk; omega
theorem Below.appended {B base : Nat} {a w w' : World} {e : TypeId} {size n : Nat} {v : Value} {xs : List Value} (h : Below B a w) (hown : w.ownsRow base e size v n xs) (hg : w.grownBy w' v.ownBlock) (hB : B ≤ w.heap.size) (hbase : B ≤ base) : Below B a w' :=
  h.grown hg hB (fun k hk => by have := own_base hown k hk; omega)

end Go.Proofs.YtjofdlafblpclaaDoor
