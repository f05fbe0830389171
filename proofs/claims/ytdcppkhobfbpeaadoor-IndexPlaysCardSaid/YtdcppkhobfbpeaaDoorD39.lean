/-
  The document's turn is what the index does; what is tidy stays so.
-/
import Derived.Test.YtdcppkhobfbpeaaDoorD38
set_option linter.unusedVariables false
set_option linter.unusedSimpArgs false
namespace Go.Am.YtdcppkhobfbpeaaDoor
open Go Go.Am Go.Proofs

theorem and_clear {b : BitVec 64} {n : Nat} (h : b.getLsbD n = false) : b &&& ~~~bitB n = b := by
  apply BitVec.eq_of_getLsbD_eq
  intro j hj
  by_cases e : j = n
  · subst e; rw [and_bit_eq, h]
  · rw [and_bit_get e hj]
theorem and_get_false {b t : BitVec 64} {n : Nat} (h : b &&& t = 0#64) (hb : b.getLsbD n = true) : t.getLsbD n = false := by
  have := congrArg (fun x : BitVec 64 => x.getLsbD n) h
  simp only [BitVec.getLsbD_and, hb, Bool.true_and] at this
  simpa using this
theorem fill_set {l : List One} {i n : Nat} {x o : One} (hn : 1 ≤ n) : fillM (l.set i x) i n o = fillM l i n o := by
  apply List.ext_getElem?
  intro j
  rw [fillM_get, fillM_get, List.length_set, List.getElem?_set]
  by_cases h2 : i ≤ j ∧ j < i + n
  · rw [if_pos h2, if_pos h2]
  · rw [if_neg h2, if_neg h2, if_neg (by omega)]
theorem set_c {l : List One} {i : Nat} {o o' : One} (ho : l[i]? = some o) (hc : o'.c = o.c) : (l.set i o').map One.c = l.map One.c := by
  rw [List.map_set, hc]
  exact set_same (by rw [List.getElem?_map, ho]; rfl)

/-- Where a place is, and of what. -/
inductive At (l : List One) (p : Pl) : Prop
  | no (h : atM l p = none)
  | huge (i n : Nat) (t : BitVec 64) (h : atM l p = some (i, 1#64)) (ho : l[i]? = some ⟨.huge n, t⟩) (hc : p.chunk = i) (hcls : p.cls = -1) (hm : p.many = n) (hn : 1 ≤ n) (ht : t = 0#64 ∨ t = 1#64)
  | run (i k m : Nat) (b t : BitVec 64) (h : atM l p = some (i, bitB m)) (ho : l[i]? = some ⟨.run k b, t⟩) (hc : p.chunk = i) (hcls : p.cls ≠ -1) (hm : p.index = m) (hlt : m < manyOf k) (hk : k < 3) (hd : b &&& t = 0#64)
theorem at_cases {l : List One} {p : Pl} (ht : ∀ o ∈ l, Tidy o) : At l p := by
  cases hat : atM l p with
  | none => exact .no hat
  | some r =>
    obtain ⟨i, b⟩ := r
    obtain ⟨o, ho, hc, hcase⟩ := atM_some hat
    have hto := ht o (List.mem_of_getElem? ho)
    obtain ⟨c, t⟩ := o
    rcases hcase with ⟨h1, h2, h3, h4, rfl⟩ | ⟨h1, h2, h3, n, h4, h5, rfl⟩
    · obtain ⟨n, e⟩ := Ck.kind_huge h2
      simp only at e
      subst e
      exact .huge i n t hat ho hc h1 h3.symm hto.1 hto.2.2
    · obtain ⟨k, b, e⟩ := Ck.kind_run h2
      simp only at e
      subst e
      exact .run i k n b t hat ho hc h1 h4 h5 hto.1 hto.2.2.2

theorem turn_drop {l : List One} {p : Pl} (ht : ∀ o ∈ l, Tidy o) : turnM l p 2 0 = dropM l p := by
  unfold turnM dropM
  cases at_cases (p := p) ht with
  | no h => rw [h]
  | huge i n t h ho hc hcls hm hn h01 =>
    rw [h]
    simp only [ho, hcls, if_true]
    unfold goneM
    rw [if_pos hcls, hm, Int.toNat_natCast, hc, Int.toNat_natCast, fill_set hn]
    rcases h01 with rfl | rfl <;> simp [One.tkn]
  | run i k m b t h ho hc hcls hm hlt hk hd =>
    have h8 := (many_pos k hk).2
    rw [h]
    simp only [ho, hcls, if_false, hm, Int.toNat_natCast]
    unfold goneM
    rw [if_neg hcls, blk_run]
    cases hb : b.getLsbD m with
    | true =>
      rw [and_bit_zero (and_get_false hd hb)]; simp
    | false =>
      cases htt : t.getLsbD m with
      | true =>
        have := and_bit_ne (show m < 64 by omega) htt
        simp [this, One.turn, and_clear hb]
      | false => rw [and_bit_zero htt]; simp
theorem turn_keep {l : List One} {p : Pl} (ht : ∀ o ∈ l, Tidy o) : turnM l p 2 1 = keepM l p := by
  unfold turnM keepM
  cases at_cases (p := p) ht with
  | no h => rw [h]
  | huge i n t h ho hc hcls hm hn h01 =>
    rw [h]
    simp only [ho, hcls, if_true]
    rcases h01 with rfl | rfl <;> simp [One.tkn, Ck.with]
  | run i k m b t h ho hc hcls hm hlt hk hd =>
    have h8 := (many_pos k hk).2
    rw [h]
    simp only [ho, hcls, if_false, hm, Int.toNat_natCast]
    rw [blk_run]
    cases hb : b.getLsbD m with
    | true =>
      rw [and_bit_zero (and_get_false hd hb)]; simp
    | false =>
      cases htt : t.getLsbD m with
      | true =>
        have := and_bit_ne (show m < 64 by omega) htt
        simp [this, One.turn, Ck.with]
      | false => rw [and_bit_zero htt]; simp
theorem turn_free {l : List One} {p : Pl} (ht : ∀ o ∈ l, Tidy o) : turnM l p 1 0 = freeM l p := by
  unfold turnM freeM
  cases at_cases (p := p) ht with
  | no h => rw [h]
  | huge i n t h ho hc hcls hm hn h01 =>
    rw [h]
    simp only [ho, hcls, if_true]
    unfold goneM
    rw [if_pos hcls, hm, Int.toNat_natCast, hc, Int.toNat_natCast, fill_set hn]
    rcases h01 with rfl | rfl <;> simp [One.tkn, Ck.kind]
  | run i k m b t h ho hc hcls hm hlt hk hd =>
    have h8 := (many_pos k hk).2
    rw [h]
    simp only [ho, hcls, if_false, hm, Int.toNat_natCast]
    unfold goneM
    rw [if_neg hcls, blk_run]
    cases hb : b.getLsbD m with
    | true =>
      have := and_bit_ne (show m < 64 by omega) hb
      simp [this, One.turn, Ck.without, Ck.kind, Ck.bits, and_clear (and_get_false hd hb)]
    | false =>
      have := and_bit_zero hb
      cases htt : t.getLsbD m with
      | true => simp [Ck.kind, Ck.bits, this]
      | false => simp [Ck.kind, Ck.bits, this]

/-- An index that is right, and tidy. -/
structure Neat (l : List One) : Prop where
  tidy : ∀ o ∈ l, Tidy o
  right : rightAux 0 (l.map One.c) = true
theorem Neat.wf {l : List One} (h : Neat l) : Wf l := ⟨fun o ho => (h.tidy o ho).ok, h.right⟩
theorem Sw.neat {l l' A X X' B : List One} (h : Sw l l' A X X' B) (hw : Neat l) (hx : ∀ o ∈ X', Tidy o) : Neat l' := by
  refine ⟨fun o ho => ?_, h.right⟩
  rw [h.l'] at ho
  have hall := hw.tidy o
  rw [h.l] at hall
  simp only [List.mem_append] at ho hall
  rcases ho with (h1 | h1) | h1
  · exact hall (.inl (.inl h1))
  · exact hx o h1
  · exact hall (.inr h1)
theorem bits_lt {b : BitVec 64} {k : Nat} (hk : k < 64) (h : ∀ j, k ≤ j → b.getLsbD j = false) : b.toNat < 2 ^ k := by
  apply Nat.lt_pow_two_of_testBit
  intro i hi
  exact h i hi
theorem bits_ge {b : BitVec 64} {k j : Nat} (h : b.toNat < 2 ^ k) (hj : k ≤ j) : b.getLsbD j = false := by
  rw [← BitVec.testBit_toNat]; exact Nat.testBit_lt_two_pow (Nat.lt_of_lt_of_le h (Nat.pow_le_pow_right (by decide) hj))
theorem tidy_or {k m : Nat} {b t : BitVec 64} (h : Tidy ⟨.run k b, t⟩) (hm : m < manyOf k) (hb : b.getLsbD m = false) : Tidy ⟨.run k b, t ||| bitB m⟩ := by
  obtain ⟨h1, h2, h3, h4⟩ := h
  have h8 := (many_pos k h1).2
  refine ⟨h1, h2, bits_lt (by omega) fun j hj => ?_, ?_⟩
  · rw [or_bit_get (by omega)]; exact bits_ge h3 hj
  · apply BitVec.eq_of_getLsbD_eq
    intro j hj
    by_cases e : j = m
    · subst e
      simp only [BitVec.getLsbD_and, hb, Bool.false_and]; simp
    · rw [BitVec.getLsbD_and, or_bit_get e, ← BitVec.getLsbD_and, h4]
theorem tidy_turn {k m next : Nat} {b t : BitVec 64} (h : Tidy ⟨.run k b, t⟩) (hm : m < manyOf k) : Tidy (One.turn ⟨.run k b, t⟩ m next) := by
  obtain ⟨h1, h2, h3, h4⟩ := h
  have h8 := (many_pos k h1).2
  have ht : (t &&& ~~~bitB m).toNat < 2 ^ manyOf k := bits_lt (by omega) fun j hj => by
    rcases Nat.lt_or_ge j 64 with h6 | h6
    · rw [and_bit_get (by omega) h6]; exact bits_ge h3 hj
    · exact BitVec.getLsbD_of_ge _ _ h6
  unfold One.turn
  simp only
  split
  · refine ⟨h1, bits_lt (by omega) fun j hj => ?_, ht, ?_⟩
    · rcases Nat.lt_or_ge j 64 with h6 | h6
      · rw [and_bit_get (by omega) h6]; exact bits_ge h2 hj
      · exact BitVec.getLsbD_of_ge _ _ h6
    · apply BitVec.eq_of_getLsbD_eq
      intro j hj
      by_cases e : j = m
      · subst e
        rw [BitVec.getLsbD_and, and_bit_eq]; simp
      · rw [BitVec.getLsbD_and, and_bit_get e hj, and_bit_get e hj, ← BitVec.getLsbD_and, h4]
  · refine ⟨h1, bits_lt (by omega) fun j hj => ?_, ht, ?_⟩
    · rw [or_bit_get (by omega)]; exact bits_ge h2 hj
    · apply BitVec.eq_of_getLsbD_eq
      intro j hj
      by_cases e : j = m
      · subst e
        rw [BitVec.getLsbD_and, and_bit_eq]; simp
      · rw [BitVec.getLsbD_and, or_bit_get e, and_bit_get e hj, ← BitVec.getLsbD_and, h4]
theorem lone_run {k : Nat} {b : BitVec 64} : (Ck.run k b).lone := ⟨by simp [Ck.kind], by simp [Ck.kind]⟩
theorem neat_set {l : List One} {i : Nat} {o o' : One} (hw : Neat l) (ho : l[i]? = some o) (hc : o'.c = o.c) (ht : Tidy o') : Neat (l.set i o') := by
  refine ⟨fun x hx => ?_, by rw [set_c ho hc]; exact hw.right⟩
  rcases List.mem_or_eq_of_mem_set hx with h | rfl
  · exact hw.tidy x h
  · exact ht
theorem turn_neat {l l' : List One} {p : Pl} {is next : Nat} (hw : Neat l) (h : turnM l p is next = some l') : Neat l' ∧ l'.length = l.length := by
  unfold turnM at h
  cases at_cases (p := p) hw.tidy with
  | no h1 => rw [h1] at h; cases h
  | huge i n t h1 ho hc hcls hm hn h01 =>
    rw [h1] at h
    simp only [ho, hcls, if_true] at h
    by_cases h2 : (if One.tkn ⟨.huge n, t⟩ = true then 2 else 1) = is
    · rw [if_pos h2] at h
      injection h with h
      subst h
      rw [hm, Int.toNat_natCast]
      split
      · obtain ⟨sw, em, hn2, h1, ex⟩ := sw_huge (X' := List.replicate n ⟨.free, 0#64⟩) hw.wf ho (by rw [List.map_replicate]; exact right_lones ⟨by simp [Ck.kind], by simp [Ck.kind]⟩) (by simp)
        rw [fillM_eq hn2]
        exact ⟨sw.neat hw fun o ho2 => by rw [List.eq_of_mem_replicate ho2]; exact rfl, sw.length⟩
      · have hto := hw.tidy _ (List.mem_of_getElem? ho)
        exact ⟨neat_set (o' := ⟨.huge n, 0#64⟩) hw ho rfl ⟨hto.1, hto.2.1, .inl rfl⟩, List.length_set⟩
    · rw [if_neg h2] at h; cases h
  | run i k m b t h1 ho hc hcls hm hlt hk hd =>
    rw [h1] at h
    simp only [ho, hcls, if_false, hm, Int.toNat_natCast] at h
    split at h
    · injection h with h
      subst h
      have hto := hw.tidy _ (List.mem_of_getElem? ho)
      have hl : (One.turn ⟨.run k b, t⟩ m next).c.lone := by
        unfold One.turn; simp only; split <;> exact lone_run
      have sw := sw_set (o' := One.turn ⟨.run k b, t⟩ m next) hw.wf ho lone_run hl
      exact ⟨sw.neat hw fun o ho2 => by rw [List.mem_singleton] at ho2; subst ho2; exact tidy_turn hto hlt, sw.length⟩
    · cases h
theorem take_neat {l : List One} {n : Nat} (hw : Neat l) (hn : n ≤ 4096) : Neat (takeM l n).2.2 ∧ (takeM l n).2.2.length = l.length := by
  cases took l n with
  | block k i m b t hc hk hi hm hb ht hrun e =>
    rw [e]
    have sw := sw_set (o' := ⟨.run k b, t ||| bitB m⟩) hw.wf hi lone_run lone_run
    exact ⟨sw.neat hw fun o ho => by rw [List.mem_singleton] at ho; subst ho; exact tidy_or (hw.tidy _ (List.mem_of_getElem? hi)) hm hb, sw.length⟩
  | fresh k i hc hk hno hi hr e =>
    rw [e]
    obtain ⟨o, ho, hof⟩ := free_at (rowI_true hr i (Nat.le_refl _) (by omega))
    have h8 := many_pos k hk
    have sw := sw_set (o' := ⟨.run k 0#64, bitB 0⟩) hw.wf ho (free_lone hof).1 lone_run
    refine ⟨sw.neat hw fun o ho => ?_, sw.length⟩
    rw [List.mem_singleton] at ho
    subst ho
    have h0 : Tidy ⟨.run k 0#64, 0#64⟩ := ⟨hk, Nat.pow_pos (by decide), Nat.pow_pos (by decide), by simp⟩
    have := tidy_or h0 h8.1 (by simp)
    simpa using this
  | large i hc hi hr e =>
    rw [e]
    have hm : 1 ≤ chunksOf n ∧ chunksOf n ≤ 8191 := by unfold chunksOf; omega
    generalize chunksOf n = many at *
    have frs : ∀ j, j < many → ∃ o, l[i + j]? = some o ∧ o.free = true := fun j hj => free_at (rowI_true hr (i + j) (by omega) (by omega))
    have sw := sw_row (X' := ⟨.huge many, 1#64⟩ :: List.replicate (many - 1) ⟨.tail, 0#64⟩) hw.wf hi.1 hm.1 (fun j hj => let ⟨o, h1, h2⟩ := frs j hj; ⟨o, h1, (free_lone h2).1⟩)
      (by rw [List.map_cons, List.map_replicate]; exact right_huge hm.1) (by simp; omega)
    have el : (fillM l i many ⟨.tail, 0#64⟩).set i ⟨.huge many, 1#64⟩ = l.take i ++ (⟨.huge many, 1#64⟩ :: List.replicate (many - 1) ⟨.tail, 0#64⟩) ++ l.drop (i + many) := by
      rw [fillM_eq hi.1, List.append_assoc, List.set_append_right _ _ (by simp; omega), List.length_take, Nat.min_eq_left (by omega), Nat.sub_self]
      obtain ⟨k, rfl⟩ : ∃ k, many = k + 1 := ⟨many - 1, by omega⟩
      rw [List.replicate_succ, List.cons_append, List.set_cons_zero, List.append_assoc]; rfl
    rw [← el] at sw
    refine ⟨sw.neat hw fun o ho => ?_, sw.length⟩
    rcases List.mem_cons.1 ho with h1 | h1
    · subst h1; exact ⟨hm.1, hm.2, .inr rfl⟩
    · rw [List.eq_of_mem_replicate h1]; exact rfl
  | no e hh => rw [e]; exact ⟨hw, rfl⟩

theorem f25_spec {h : Heap} {Q : Value → Heap → Prop} {yb lb : Nat} {l : List One} {p : Pl} (hi : YX h yb lb l) (hw : Neat l) (hn : l.length ≤ 1000)
    (q : ∀ h', Upd h h' lb → YX h' yb lb (okM l (dropM l p)).2 → Q (.bool (okM l (dropM l p)).1) h') : WC T (.func (.func 25) #[] #[]) [.pointer (some ⟨yb, 0, none⟩), p.val] h Q := by
  refine WC_fn T25 rfl ?_
  have gp : getAt p.cells 0 5 = some p.cells := rfl
  have yn := hi.yn
  have ln := hi.ln
  rw [← turn_drop hw.tidy] at q
  simp (disch := first | assumption | omega | (simp only [push_n, set_n]; done) | (simp only [push_n, set_n]; omega) | fail) only [go_sem, ↓reduceIte, Nat.reduceEqDiff, Nat.reduceAdd, Nat.reduceMul, Int.reduceToNat, Int.reduceAdd, Int.reduceTDiv, Nat.reduceLeDiff, ir25, gp]
  refine f56_spec (l := l) (yb := yb) (lb := lb) (hi.ext (by repeat (first | assumption | exact Ext.refl _ | refine Ext.push ?_ | refine Ext.set ?_ (by omega) | refine Ext.trans ?_ (by assumption)))) hw.tidy hw.wf hn (.inr rfl) (.inl rfl) ?_ ?_
  · intro l' h1 e u1 i1
    have n1 := u1.1
    simp only [push_n] at n1
    rw [e] at q
    simp (disch := first | assumption | omega | (simp only [push_n, set_n]; done) | (simp only [push_n, set_n]; omega) | fail) only [go_sem, ↓reduceIte, Nat.reduceEqDiff, Nat.reduceAdd, Nat.reduceMul, Int.reduceToNat, Int.reduceAdd, Int.reduceTDiv, Nat.reduceLeDiff, u1.2]
    exact q _ (Upd.of_push u1) i1
  · intro h1 e x1
    have n_x1 := Ext.n_le x1; try simp only [push_n, set_n] at n_x1
    rw [e] at q
    simp (disch := first | assumption | omega | (simp only [push_n, set_n]; done) | (simp only [push_n, set_n]; omega) | fail) only [go_sem, ↓reduceIte, Nat.reduceEqDiff, Nat.reduceAdd, Nat.reduceMul, Int.reduceToNat, Int.reduceAdd, Int.reduceTDiv, Nat.reduceLeDiff, x1.2]
    exact q _ (Ext.upd (by repeat (first | assumption | exact Ext.refl _ | refine Ext.push ?_ | refine Ext.set ?_ (by omega) | refine Ext.trans ?_ (by assumption)))) (hi.ext (by repeat (first | assumption | exact Ext.refl _ | refine Ext.push ?_ | refine Ext.set ?_ (by omega) | refine Ext.trans ?_ (by assumption))))
theorem f26_spec {h : Heap} {Q : Value → Heap → Prop} {yb lb : Nat} {l : List One} {p : Pl} (hi : YX h yb lb l) (hw : Neat l) (hn : l.length ≤ 1000)
    (q : ∀ h', Upd h h' lb → YX h' yb lb (okM l (keepM l p)).2 → Q (.bool (okM l (keepM l p)).1) h') : WC T (.func (.func 26) #[] #[]) [.pointer (some ⟨yb, 0, none⟩), p.val] h Q := by
  refine WC_fn T26 rfl ?_
  have gp : getAt p.cells 0 5 = some p.cells := rfl
  have yn := hi.yn
  have ln := hi.ln
  rw [← turn_keep hw.tidy] at q
  simp (disch := first | assumption | omega | (simp only [push_n, set_n]; done) | (simp only [push_n, set_n]; omega) | fail) only [go_sem, ↓reduceIte, Nat.reduceEqDiff, Nat.reduceAdd, Nat.reduceMul, Int.reduceToNat, Int.reduceAdd, Int.reduceTDiv, Nat.reduceLeDiff, ir26, gp]
  refine f56_spec (l := l) (yb := yb) (lb := lb) (hi.ext (by repeat (first | assumption | exact Ext.refl _ | refine Ext.push ?_ | refine Ext.set ?_ (by omega) | refine Ext.trans ?_ (by assumption)))) hw.tidy hw.wf hn (.inr rfl) (.inr rfl) ?_ ?_
  · intro l' h1 e u1 i1
    have n1 := u1.1
    simp only [push_n] at n1
    rw [e] at q
    simp (disch := first | assumption | omega | (simp only [push_n, set_n]; done) | (simp only [push_n, set_n]; omega) | fail) only [go_sem, ↓reduceIte, Nat.reduceEqDiff, Nat.reduceAdd, Nat.reduceMul, Int.reduceToNat, Int.reduceAdd, Int.reduceTDiv, Nat.reduceLeDiff, u1.2]
    exact q _ (Upd.of_push u1) i1
  · intro h1 e x1
    have n_x1 := Ext.n_le x1; try simp only [push_n, set_n] at n_x1
    rw [e] at q
    simp (disch := first | assumption | omega | (simp only [push_n, set_n]; done) | (simp only [push_n, set_n]; omega) | fail) only [go_sem, ↓reduceIte, Nat.reduceEqDiff, Nat.reduceAdd, Nat.reduceMul, Int.reduceToNat, Int.reduceAdd, Int.reduceTDiv, Nat.reduceLeDiff, x1.2]
    exact q _ (Ext.upd (by repeat (first | assumption | exact Ext.refl _ | refine Ext.push ?_ | refine Ext.set ?_ (by omega) | refine Ext.trans ?_ (by assumption)))) (hi.ext (by repeat (first | assumption | exact Ext.refl _ | refine Ext.push ?_ | refine Ext.set ?_ (by omega) | refine Ext.trans ?_ (by assumption))))
theorem f27_spec {h : Heap} {Q : Value → Heap → Prop} {yb lb : Nat} {l : List One} {p : Pl} (hi : YX h yb lb l) (hw : Neat l) (hn : l.length ≤ 1000)
    (q : ∀ h', Upd h h' lb → YX h' yb lb (okM l (freeM l p)).2 → Q (.bool (okM l (freeM l p)).1) h') : WC T (.func (.func 27) #[] #[]) [.pointer (some ⟨yb, 0, none⟩), p.val] h Q := by
  refine WC_fn T27 rfl ?_
  have gp : getAt p.cells 0 5 = some p.cells := rfl
  have yn := hi.yn
  have ln := hi.ln
  rw [← turn_free hw.tidy] at q
  simp (disch := first | assumption | omega | (simp only [push_n, set_n]; done) | (simp only [push_n, set_n]; omega) | fail) only [go_sem, ↓reduceIte, Nat.reduceEqDiff, Nat.reduceAdd, Nat.reduceMul, Int.reduceToNat, Int.reduceAdd, Int.reduceTDiv, Nat.reduceLeDiff, ir27, gp]
  refine f56_spec (l := l) (yb := yb) (lb := lb) (hi.ext (by repeat (first | assumption | exact Ext.refl _ | refine Ext.push ?_ | refine Ext.set ?_ (by omega) | refine Ext.trans ?_ (by assumption)))) hw.tidy hw.wf hn (.inl rfl) (.inl rfl) ?_ ?_
  · intro l' h1 e u1 i1
    have n1 := u1.1
    simp only [push_n] at n1
    rw [e] at q
    simp (disch := first | assumption | omega | (simp only [push_n, set_n]; done) | (simp only [push_n, set_n]; omega) | fail) only [go_sem, ↓reduceIte, Nat.reduceEqDiff, Nat.reduceAdd, Nat.reduceMul, Int.reduceToNat, Int.reduceAdd, Int.reduceTDiv, Nat.reduceLeDiff, u1.2]
    exact q _ (Upd.of_push u1) i1
  · intro h1 e x1
    have n_x1 := Ext.n_le x1; try simp only [push_n, set_n] at n_x1
    rw [e] at q
    simp (disch := first | assumption | omega | (simp only [push_n, set_n]; done) | (simp only [push_n, set_n]; omega) | fail) only [go_sem, ↓reduceIte, Nat.reduceEqDiff, Nat.reduceAdd, Nat.reduceMul, Int.reduceToNat, Int.reduceAdd, Int.reduceTDiv, Nat.reduceLeDiff, x1.2]
    exact q _ (Ext.upd (by repeat (first | assumption | exact Ext.refl _ | refine Ext.push ?_ | refine Ext.set ?_ (by omega) | refine Ext.trans ?_ (by assumption)))) (hi.ext (by repeat (first | assumption | exact Ext.refl _ | refine Ext.push ?_ | refine Ext.set ?_ (by omega) | refine Ext.trans ?_ (by assumption))))
end Go.Am.YtdcppkhobfbpeaaDoor
