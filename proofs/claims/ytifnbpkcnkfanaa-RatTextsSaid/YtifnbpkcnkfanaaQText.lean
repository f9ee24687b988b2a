/-
  rat.Text.
-/
import Derived.Test.YtifnbpkcnkfanaaQJoin
import Derived.Test.YtifnbpkcnkfanaaNTextP
import Derived.Test.YtifnbpkcnkfanaaRegU
namespace Go.Proofs.Ytifnbpkcnkfanaa
open Go.RowKit

/-- The decimal digits, least significant first. -/
def dg (n : Nat) : List Nat := if h : n = 0 then [] else n % 10 :: dg (n / 10)
theorem dg_nrm (n : Nat) : Nrm 10 (dg n) n := by
  induction n using Nat.strongRecOn with
  | ind n ih =>
    rw [dg]
    by_cases h : n = 0
    · rw [dif_pos h]; subst h; exact Nrm.nil _
    · rw [dif_neg h]
      obtain ⟨h1, h2, h3⟩ := ih (n / 10) (by omega)
      refine ⟨by rw [valB, h1]; omega, fun d hd => ?_, .inr ?_⟩
      · rcases List.mem_cons.1 hd with e | e
        · omega
        · exact h2 d e
      · rcases h3 with e | e
        · rw [e] at h1 ⊢
          have : n / 10 = 0 := h1.symm
          simp [nth]; omega
        · have hne : dg (n / 10) ≠ [] := by
            intro h0; rw [h0] at e; exact e (by simp [nth])
          have hl : 0 < (dg (n / 10)).length := List.length_pos_iff.2 hne
          rw [List.length_cons, Nat.add_sub_cancel]
          have : nth (n % 10 :: dg (n / 10)) (dg (n / 10)).length = nth (dg (n / 10)) ((dg (n / 10)).length - 1) := by
            simp only [nth, List.getD]
            rw [List.getElem?_cons, if_neg (by omega)]
          rw [this]; exact e
def decT (n : Nat) : ByteArray := textOf (dg n)
theorem decT_of {D : List Nat} {n : Nat} (h : Nrm 10 D n) : textOf D = decT n := by rw [decT, h.unique (dg_nrm n) (by omega)]
theorem decT_size {n b : Nat} (h : n < PB b) (hb : 1 ≤ b) : (decT n).size ≤ 10 * b := by
  have h1 : n < 10 ^ (10 * b) := by
    have : PB b ≤ 10 ^ (10 * b) := by rw [PB, Nat.pow_mul]; exact Nat.pow_le_pow_left (by omega) b
    omega
  exact text_size ((dg_nrm n).small_lt h1) (by omega)
theorem text_t {w : World} {A : Option Addr} {n c a N : Nat} (h : Num w A n c a N) : Calls Try.prog 59 #[.slice A n c] w fun e w' => e = .returned (.string (decT N)) ∧ Below w.heap.size w w' :=
  (text_n h).mono fun _ _ ⟨_, h1, h2, h3⟩ => ⟨by rw [h2, decT_of h1], h3⟩
def sgT (s : Bool) : ByteArray := if s then ⟨#[45]⟩ else ⟨#[]⟩
/-- The text form. -/
def txt (x : Rat) : ByteArray := sgT (decide (x.num < 0)) ++ (if x.den = 1 then decT x.num.natAbs else strs2 (decT x.num.natAbs) (decT x.den))
theorem strs2_size (a b : ByteArray) : (strs2 a b).size = a.size + b.size + 1 := by
  simp only [strs2, ByteArray.size]; simp; omega

theorem keep3 {w0 w' : World} {g : Nat} {t : TypeId} {x y z : Value} (h : TB w0 g t x y z) (hb : Below w0.heap.size w0 w') : (w'.cell? ⟨g, 1, none⟩ = some y ∧ w'.cell? ⟨g, 2, none⟩ = some z) ∧ Below w0.heap.size w0 w' :=
  ⟨⟨(h.new hb).c1, (h.new hb).c2⟩, hb⟩

theorem call_ntext : callsB Try.prog 59 = true := by kernel_rfl
theorem call_qjoin : callsB Try.prog 58 = true := by kernel_rfl
theorem build_str2 {o : Oper} {a : Act} {w : World} {x y : Operand} {S T : ByteArray} (ho : o.op = .buildSlice 97 2 #[(0, x), (1, y)]) (hx : a.eval x = .string S) (hy : a.eval y = .string T) :
    gives Try.prog o a.eval w (fun v w' => (∃ g, v = .slice (some ⟨g, 0, none⟩) 2 2 ∧ Blk w' g 9 #[.string S, .string T]) ∧ Below w.heap.size w w') := by
  have hr : (execOp a.eval o).run Try.prog w = .ok (.value (.slice (some ⟨w.heap.size, 0, none⟩) 2 2)) (w.alloc (.cells #[.string S, .string T] 9)) := by
    unfold execOp
    rw [ho]
    simp only [List.map_toArray, List.map_cons, List.map_nil, hx, hy]
    go_simp
  unfold gives
  rw [hr]
  exact ⟨⟨_, rfl, Blk.new _ _ _⟩, al _ _⟩
theorem field_q1 {o : Oper} {a : Act} {w : World} {t : Tmp} {g : Nat} (ho : o.op = .fieldAddr 29 (.tmp t) 1) (hx : tv a t = .pointer (some ⟨g, 0, none⟩)) : gives Try.prog o a.eval w (fun v w' => v = .pointer (some ⟨g, 1, none⟩) ∧ Below w.heap.size w w') := by
  refine gives_val (.pointer (some ⟨g, 1, none⟩)) ?_ ⟨rfl, Below.refl _ _⟩
  unfold execOp
  rw [ho]
  simp only [eval_tmp, hx]
  go_simp
theorem field_q2 {o : Oper} {a : Act} {w : World} {t : Tmp} {g : Nat} (ho : o.op = .fieldAddr 29 (.tmp t) 2) (hx : tv a t = .pointer (some ⟨g, 0, none⟩)) : gives Try.prog o a.eval w (fun v w' => v = .pointer (some ⟨g, 2, none⟩) ∧ Below w.heap.size w w') := by
  refine gives_val (.pointer (some ⟨g, 2, none⟩)) ?_ ⟨rfl, Below.refl _ _⟩
  unfold execOp
  rw [ho]
  simp only [eval_tmp, hx]
  go_simp
theorem load_nat {o : Oper} {a : Act} {w : World} {t : Tmp} {p : Addr} {v : Value} (ho : o.op = .load 27 (.tmp t)) (hx : tv a t = .pointer (some p)) (hc : w.cell? p = some v) : gives Try.prog o a.eval w (fun u w' => u = v ∧ Below w.heap.size w w') := by
  refine gives_val v ?_ ⟨rfl, Below.refl _ _⟩
  unfold execOp
  rw [ho]
  simp only [eval_tmp, hx]
  go_simp
theorem cat_str {o : Oper} {a : Act} {w : World} {x y : Operand} {t t2 : TypeId} {S T : ByteArray} (ho : o.op = .binOp .add t x y t2) (hx : a.eval x = .string S) (hy : a.eval y = .string T) (hz : S.size + T.size ≤ 1000000000) : gives Try.prog o a.eval w (fun u w' => u = .string (S ++ T) ∧ Below w.heap.size w w') := by
  refine gives_val (.string (S ++ T)) ?_ ⟨rfl, Below.refl _ _⟩
  unfold execOp
  rw [ho]
  simp only [hx, hy]
  have hz2 : S.size + T.size ≤ 9223372036854775807 := by omega
  go_simp

set_option maxRecDepth 100000 in
set_option maxHeartbeats 4000000 in
theorem qtext_any {w : World} {s : Bool} {A B : Option Addr} {n c m d b : Nat} {x : Rat} (h : Ra w s A n c B m d b x) (hb5 : b ≤ 5000) :
    Calls Try.prog 35 #[.agg #[.bool s, .slice A n c, .slice B m d]] w fun e w' => e = .returned (.string (txt x)) ∧ Below w.heap.size w w' := by
  have HA := Lib.hid h; clear h
  have hT := TB.made w 29 (.bool s) (.slice A n c) (.slice B m d)
  have a0 := hT.c0; have a1 := hT.c1; have a2 := hT.c2
  have T := Lib.hid hT; clear hT
  go_enter Try.func35, Try.ntmps35
  go_wp2_with fail
  refine (qnorm_any (HA.out.new (al w _)) hb5).mono ?_
  rintro e w5 ⟨s5, A5, n5, c5, B5, m5, d5, rfl, h5, hb⟩
  have t3 := T.out.new hb
  have e0 := t3.c0; have e1 := t3.c1; have e2 := t3.c2; have g0 := t3.f0; have g1 := t3.f1; have g2 := t3.f2
  have H5 := Lib.hid (h5.store3 t3 (.bool s5) (.slice A5 n5 c5) (.slice B5 m5 d5))
  have U3 : Hid (TB _ _ _ _ _ _) := Lib.hid (t3.set3 (.bool s5) (.slice A5 n5 c5) (.slice B5 m5 d5))
  have HW := Lib.hid (below_store3 (bthen (al w _) hb (al w _).size) (Nat.le_refl _) (.bool s5) (.slice A5 n5 c5) (.slice B5 m5 d5))
  clear h5 hb t3 HA T a0 a1 a2
  go_upto_region 2 with (fail)
  generalize ((w5.setCell ⟨w.heap.size, 0, none⟩ (.bool s5)).setCell ⟨w.heap.size, 1, none⟩ (.slice A5 n5 c5)).setCell ⟨w.heap.size, 2, none⟩ (.slice B5 m5 d5) = w6 at H5 U3 HW ⊢
  clear e0 e1 e2 g0 g1 g2
  have b0 := U3.out.c0; have b1 := U3.out.c1; have b2 := U3.out.c2
  have hlt := U3.out.lt
  have HS := Lib.hid (show txt x = sgT s5 ++ (if x.den = 1 then decT x.num.natAbs else strs2 (decT x.num.natAbs) (decT x.den)) by rw [txt, H5.out.1])
  have hz1 := decT_size H5.out.2.1.1.2.2.2.1 H5.out.2.1.1.2.1
  have hz2 := decT_size H5.out.2.2.1.2.2.2.1 H5.out.2.2.1.2.1
  by_cases hd : x.den = 1
  · have HT := Lib.hid (show txt x = sgT s5 ++ decT x.num.natAbs by rw [HS.out, if_pos hd])
    have HD := Lib.hid hd; clear hd hz2
    obtain ⟨T1, hT1⟩ : ∃ T, T = decT x.num.natAbs := ⟨_, rfl⟩
    have ht1 := text_t H5.out.2.1.1
    rw [← hT1] at hz1 HT ht1
    have TT := Lib.hid ht1; clear ht1 hT1 HS
    cases s5
    all_goals
      go_wp2_with fail
      refine (bits_n H5.out.2.2.1).mono ?_
      rintro e w7 ⟨bb, rfl, hbits, hbb, rfl⟩
      rw [HD.out] at hbits
      obtain rfl := hbits.one'
      clear hbits
      go_wp2_with fail
      refine TT.out.mono ?_
      rintro e w8 ⟨rfl, hb⟩
      have HW8 := Lib.hid (bthen HW.out hb HW.out.size); clear hb
      clear b0 b1 b2
      go_wp2_with fail
      refine (qjoin1_any w8.heap.size T1 _ (Blk.new w8 9 _)).mono ?_
      rintro e w9 ⟨rfl, rfl⟩
      go_wp2_with fail
      go_ret
      exact ⟨by rw [HT.out]; simp [sgT], HW8.out.alloc HW8.out.size _⟩
  · have HT := Lib.hid (show txt x = sgT s5 ++ strs2 (decT x.num.natAbs) (decT x.den) by rw [HS.out, if_neg hd])
    obtain ⟨T1, hT1⟩ : ∃ T, T = decT x.num.natAbs := ⟨_, rfl⟩
    obtain ⟨T2, hT2⟩ : ∃ T, T = decT x.den := ⟨_, rfl⟩
    have hn := H5.out.2.1.1
    have hm := H5.out.2.2.1
    have ht1 : ∀ W, Below w6.heap.size w6 W → Calls Try.prog 59 #[.slice A5 n5 c5] W fun e w' => e = .returned (.string T1) ∧ Below W.heap.size W w' := fun W hW => by rw [hT1]; exact text_t (hn.new hW)
    have ht2 : ∀ W, Below w6.heap.size w6 W → Calls Try.prog 59 #[.slice B5 m5 d5] W fun e w' => e = .returned (.string T2) ∧ Below W.heap.size W w' := fun W hW => by rw [hT2]; exact text_t (hm.new hW)
    rw [← hT1] at hz1 HT
    rw [← hT2] at hz2 HT
    have hss := strs2_size T1 T2
    have TT1 := Lib.hid ht1; have TT2 := Lib.hid ht2; clear ht1 ht2 hT1 hT2 HS hn hm
    have hden := x.den_nz
    cases s5
    · go_wp2_with fail
      refine (bits_n H5.out.2.2.1).mono ?_
      rintro e w7 ⟨bb, rfl, hbits, hbb, rfl⟩
      have tb : ((bb : Int) == 1) = false := by have := hbits.many (by omega); simp; omega
      clear hbits
      go_wp2_with fail
      refine wp_region_each (kss := [[], [], [(1, 20)], [(2, 21)], [], [(4, 23)], [(5, 24)], [(3, 22), (6, 25)], [(7, 26)], [(0, 19), (8, 27)], [(9, 28)]]) [(3, .string (sgT false)), (1, .pointer (some ⟨w.heap.size, 0, none⟩))]
        [fun u _ => u = .string (sgT false), fun u _ => u = .pointer (some ⟨w.heap.size, 1, none⟩), fun u _ => u = .slice A5 n5 c5, fun u _ => u = .string T1, fun u _ => u = .pointer (some ⟨w.heap.size, 2, none⟩), fun u _ => u = .slice B5 m5 d5, fun u _ => u = .string T2,
         fun u W => ∃ g, u = .slice (some ⟨g, 0, none⟩) 2 2 ∧ Blk W g 9 #[.string T1, .string T2], fun u _ => u = .string (strs2 T1 T2), fun u _ => u = .string (sgT false ++ strs2 T1 T2), fun u _ => u = .string (sgT false ++ strs2 T1 T2)] (by kernel_rfl) (by kernel_rfl) ⟨rfl, rfl, trivial⟩ ?_ ?_ ?_
      · exact ⟨fun _ _ _ h _ => h, fun _ _ _ h _ => h, fun _ _ _ h _ => h, fun _ _ _ h _ => h, fun _ _ _ h _ => h, fun _ _ _ h _ => h, fun _ _ _ h _ => h, fun _ _ _ h hb => by obtain ⟨g, h1, h2⟩ := h; exact ⟨g, h1, h2.below hb h2.lt⟩, fun _ _ _ h _ => h, fun _ _ _ h _ => h, fun _ _ _ h _ => h, trivial⟩
      · refine ⟨?_, ?_, ?_, ?_, ?_, ?_, ?_, ?_, ?_, ?_, ?_, trivial⟩
        · exact fun a w hb he hd => ob_plain rfl (gives_move _ rfl ⟨he.1, Below.refl _ _⟩)
        · exact fun a w hb he hd => ob_plain rfl (field_q1 rfl he.2.1)
        · exact fun a w hb he hd => ob_plain rfl (load_nat rfl hd.1 (U3.out.new hb).c1)
        · exact fun a w hb he hd => ob_plain rfl (gives_call1 _ _ _ rfl call_ntext (by rw [show a.eval (.tmp 21) = .slice A5 n5 c5 from hd.1]; exact rv_one (TT1.out _ hb)))
        · exact fun a w hb he hd => ob_plain rfl (field_q2 rfl he.2.1)
        · exact fun a w hb he hd => ob_plain rfl (load_nat rfl hd.1 (U3.out.new hb).c2)
        · exact fun a w hb he hd => ob_plain rfl (gives_call1 _ _ _ rfl call_ntext (by rw [show a.eval (.tmp 24) = .slice B5 m5 d5 from hd.1]; exact rv_one (TT2.out _ hb)))
        · exact fun a w hb he hd => ob_plain rfl (build_str2 rfl hd.1 hd.2.1)
        · exact fun a w hb he hd => ob_plain rfl (gives_call1 _ _ _ rfl call_qjoin (by obtain ⟨g, h1, h2⟩ := hd.1; rw [show a.eval (.tmp 26) = .slice (some ⟨g, 0, none⟩) 2 2 from h1]; exact rv_one (qjoin2_any g T1 T2 _ h2 (by omega) (by omega))))
        · exact fun a w hb he hd => ob_plain rfl (cat_str rfl hd.1 hd.2.1 (by rw [show (sgT false).size = 0 from rfl]; omega))
        · exact fun a w hb he hd => ob_plain rfl (gives_assign _ rfl ⟨hd.1, Below.refl _ _⟩)
      intro vs w9 hb hR
      have e2 : vs 10 = .string (sgT false ++ strs2 T1 T2) := hR 10 (by decide)
      clear hR
      simp only [putsL, Nat.zero_add, Nat.reduceAdd, Act.put, List.setIfInBounds_toArray, List.set_cons_zero, List.set_cons_succ]
      rw [e2]
      clear e2
      have HB10 := Lib.hid hb; clear hb
      go_wp2_with fail
      go_ret
      exact ⟨by rw [HT.out]; rfl, bthen HW.out HB10.out HW.out.size⟩
    · go_wp2_with fail
      refine (bits_n H5.out.2.2.1).mono ?_
      rintro e w7 ⟨bb, rfl, hbits, hbb, rfl⟩
      have tb : ((bb : Int) == 1) = false := by have := hbits.many (by omega); simp; omega
      clear hbits
      go_wp2_with fail
      refine wp_region_each (kss := [[], [], [(1, 20)], [(2, 21)], [], [(4, 23)], [(5, 24)], [(3, 22), (6, 25)], [(7, 26)], [(0, 19), (8, 27)], [(9, 28)]]) [(3, .string (sgT true)), (1, .pointer (some ⟨w.heap.size, 0, none⟩))]
        [fun u _ => u = .string (sgT true), fun u _ => u = .pointer (some ⟨w.heap.size, 1, none⟩), fun u _ => u = .slice A5 n5 c5, fun u _ => u = .string T1, fun u _ => u = .pointer (some ⟨w.heap.size, 2, none⟩), fun u _ => u = .slice B5 m5 d5, fun u _ => u = .string T2,
         fun u W => ∃ g, u = .slice (some ⟨g, 0, none⟩) 2 2 ∧ Blk W g 9 #[.string T1, .string T2], fun u _ => u = .string (strs2 T1 T2), fun u _ => u = .string (sgT true ++ strs2 T1 T2), fun u _ => u = .string (sgT true ++ strs2 T1 T2)] (by kernel_rfl) (by kernel_rfl) ⟨rfl, rfl, trivial⟩ ?_ ?_ ?_
      · exact ⟨fun _ _ _ h _ => h, fun _ _ _ h _ => h, fun _ _ _ h _ => h, fun _ _ _ h _ => h, fun _ _ _ h _ => h, fun _ _ _ h _ => h, fun _ _ _ h _ => h, fun _ _ _ h hb => by obtain ⟨g, h1, h2⟩ := h; exact ⟨g, h1, h2.below hb h2.lt⟩, fun _ _ _ h _ => h, fun _ _ _ h _ => h, fun _ _ _ h _ => h, trivial⟩
      · refine ⟨?_, ?_, ?_, ?_, ?_, ?_, ?_, ?_, ?_, ?_, ?_, trivial⟩
        · exact fun a w hb he hd => ob_plain rfl (gives_move _ rfl ⟨he.1, Below.refl _ _⟩)
        · exact fun a w hb he hd => ob_plain rfl (field_q1 rfl he.2.1)
        · exact fun a w hb he hd => ob_plain rfl (load_nat rfl hd.1 (U3.out.new hb).c1)
        · exact fun a w hb he hd => ob_plain rfl (gives_call1 _ _ _ rfl call_ntext (by rw [show a.eval (.tmp 21) = .slice A5 n5 c5 from hd.1]; exact rv_one (TT1.out _ hb)))
        · exact fun a w hb he hd => ob_plain rfl (field_q2 rfl he.2.1)
        · exact fun a w hb he hd => ob_plain rfl (load_nat rfl hd.1 (U3.out.new hb).c2)
        · exact fun a w hb he hd => ob_plain rfl (gives_call1 _ _ _ rfl call_ntext (by rw [show a.eval (.tmp 24) = .slice B5 m5 d5 from hd.1]; exact rv_one (TT2.out _ hb)))
        · exact fun a w hb he hd => ob_plain rfl (build_str2 rfl hd.1 hd.2.1)
        · exact fun a w hb he hd => ob_plain rfl (gives_call1 _ _ _ rfl call_qjoin (by obtain ⟨g, h1, h2⟩ := hd.1; rw [show a.eval (.tmp 26) = .slice (some ⟨g, 0, none⟩) 2 2 from h1]; exact rv_one (qjoin2_any g T1 T2 _ h2 (by omega) (by omega))))
        · exact fun a w hb he hd => ob_plain rfl (cat_str rfl hd.1 hd.2.1 (by rw [show (sgT true).size = 1 from rfl]; omega))
        · exact fun a w hb he hd => ob_plain rfl (gives_assign _ rfl ⟨hd.1, Below.refl _ _⟩)
      intro vs w9 hb hR
      have e2 : vs 10 = .string (sgT true ++ strs2 T1 T2) := hR 10 (by decide)
      clear hR
      simp only [putsL, Nat.zero_add, Nat.reduceAdd, Act.put, List.setIfInBounds_toArray, List.set_cons_zero, List.set_cons_succ]
      rw [e2]
      clear e2
      have HB10 := Lib.hid hb; clear hb
      go_wp2_with fail
      go_ret
      exact ⟨by rw [HT.out]; rfl, bthen HW.out HB10.out HW.out.size⟩
end Go.Proofs.Ytifnbpkcnkfanaa
