/-
  Dropping, keeping, freeing.
-/
import Derived.Test.YtdcppkhobfbpeaaDoorD8
set_option linter.unusedVariables false
set_option linter.unusedSimpArgs false
namespace Go.Am.YtdcppkhobfbpeaaDoor
open Go Go.Am Go.Proofs

/-- A huge one's chunks are there. -/
def Fits (l : List One) : Prop := ∀ i o, l[i]? = some o → o.c.kind = 2 → i + o.c.many ≤ l.length
def dropM (l : List One) (p : Pl) : Option (List One) := match atM l p with
  | some (i, b) => match l[i]? with
    | some o => if o.t &&& b = 0#64 then none else some (goneM (l.set i ⟨o.c, o.t &&& ~~~b⟩) p)
    | none => none
  | none => none
def Ck.with (c : Ck) (b : BitVec 64) : Ck := match c with
  | .run k bits => .run k (bits ||| b)
  | c => c
def Ck.without (c : Ck) (b : BitVec 64) : Ck := match c with
  | .run k bits => .run k (bits &&& ~~~b)
  | c => c
def keepM (l : List One) (p : Pl) : Option (List One) := match atM l p with
  | some (i, b) => match l[i]? with
    | some o => if o.t &&& b = 0#64 then none else some (l.set i ⟨o.c.with b, o.t &&& ~~~b⟩)
    | none => none
  | none => none
def freeM (l : List One) (p : Pl) : Option (List One) := match atM l p with
  | some (i, b) => match l[i]? with
    | some o => if o.c.kind = 1 ∧ o.c.bits &&& b = 0#64 ∨ o.c.kind = 2 ∧ o.t ≠ 0#64 then none else some (goneM (l.set i ⟨o.c.without b, o.t⟩) p)
    | none => none
  | none => none
def okM (l : List One) (r : Option (List One)) : Bool × List One := match r with | some l' => (true, l') | none => (false, l)
theorem Upd.get {h h' : Heap} {lb : Nat} (u : Upd h h' lb) {i : Nat} (hi : i < h.n) (hn : i ≠ lb) : h'.get i = h.get i := u.2 i hi hn

theorem f24_spec {h : Heap} {Q : Value → Heap → Prop} {xb lb : Nat} {l : List One} {p : Pl} (hb : blocks h) (hi : IX h xb lb l) (hn : l.length ≤ 1000) (hf : Fits l)
    (q : ∀ h', Upd h h' lb → IX h' xb lb (okM l (dropM l p)).2 → Q (.bool (okM l (dropM l p)).1) h') : WC T (.func (.func 24) #[] #[]) [.pointer (some ⟨xb, 0, none⟩), p.val] h Q := by
  refine WC_fn T24 rfl ?_
  have xn := hi.xn
  have ln := hi.ln
  have gp : getAt p.cells 0 5 = some p.cells := rfl
  simp (disch := first | assumption | omega | (simp only [push_n, set_n]; done) | (simp only [push_n, set_n]; omega) | fail) only [go_sem, ↓reduceIte, Nat.reduceEqDiff, Nat.reduceAdd, Nat.reduceMul, Int.reduceToNat, Int.reduceAdd, Int.reduceTDiv, Nat.reduceLeDiff, ir24, gp]
  refine f47_spec (hb.ext (by repeat (first | assumption | exact Ext.refl _ | refine Ext.push ?_ | refine Ext.set ?_ (by omega) | refine Ext.trans ?_ (by assumption)))) (hi.ext (by repeat (first | assumption | exact Ext.refl _ | refine Ext.push ?_ | refine Ext.set ?_ (by omega) | refine Ext.trans ?_ (by assumption)))) ?_ ?_
  · intro i b h1 x1 hat
    have n_x1 := Ext.n_le x1; try simp only [push_n, set_n] at n_x1
    obtain ⟨o, ho, hpi, hcase⟩ := atM_some hat
    have hil : i < l.length := by
      rcases Nat.lt_or_ge i l.length with h1 | h1
      · exact h1
      · rw [List.getElem?_eq_none h1] at ho; cases ho
    have hne : l ≠ [] := by intro e; subst e; simp at hil
    have il := hi.l hne
    have p5 := one_part ho 5 1 (by omega)
    by_cases ht : o.t &&& b = 0#64
    · have hd : okM l (dropM l p) = (false, l) := by unfold dropM; simp [hat, ho, ht, okM]
      rw [hd] at q
      simp (disch := first | assumption | omega | (simp only [push_n, set_n]; done) | (simp only [push_n, set_n]; omega) | fail) only [go_sem, ↓reduceIte, Nat.reduceEqDiff, Nat.reduceAdd, Nat.reduceMul, Int.reduceToNat, Int.reduceAdd, Int.reduceTDiv, Nat.reduceLeDiff, x1.2, il, p5, One.cells, ht]
      exact q _ (Ext.upd (by repeat (first | assumption | exact Ext.refl _ | refine Ext.push ?_ | refine Ext.set ?_ (by omega) | refine Ext.trans ?_ (by assumption)))) (hi.ext (by repeat (first | assumption | exact Ext.refl _ | refine Ext.push ?_ | refine Ext.set ?_ (by omega) | refine Ext.trans ?_ (by assumption))))
    · have hd : okM l (dropM l p) = (true, goneM (l.set i ⟨o.c, o.t &&& ~~~b⟩) p) := by unfold dropM; simp [hat, ho, ht, okM]
      rw [hd] at q
      have g2 := one_set (o' := ⟨o.c, o.t &&& ~~~b⟩) ho 5 [ub (o.t &&& ~~~b)] (Nat.le_refl 6) rfl
      simp (disch := first | assumption | omega | (simp only [push_n, set_n]; done) | (simp only [push_n, set_n]; omega) | fail) only [go_sem, ↓reduceIte, Nat.reduceEqDiff, Nat.reduceAdd, Nat.reduceMul, Int.reduceToNat, Int.reduceAdd, Int.reduceTDiv, Nat.reduceLeDiff, x1.2, il, p5, One.cells, ht, flat_length, g2, gp]
      refine f48_spec (IX.write (hi.ext (h' := h1) (by repeat (first | assumption | exact Ext.refl _ | refine Ext.push ?_ | refine Ext.set ?_ (by omega) | refine Ext.trans ?_ (by assumption)))) (by rw [List.length_set])) (by rw [List.length_set]; exact hn) ?_ ?_
      · intro hc
        rcases hcase with ⟨_, k2, k3, _⟩ | ⟨k0, _⟩
        · exact ⟨i, o.c.many, hpi, k3.symm, by rw [List.length_set]; exact hf i o ho k2⟩
        · exact (k0 hc).elim
      · intro h2 u2 i2
        have n2 := u2.1
        simp only [set_n] at n2
        simp (disch := first | assumption | omega | (simp only [push_n, set_n]; done) | (simp only [push_n, set_n]; omega) | fail) only [go_sem, ↓reduceIte, Nat.reduceEqDiff, Nat.reduceAdd, Nat.reduceMul, Int.reduceToNat, Int.reduceAdd, Int.reduceTDiv, Nat.reduceLeDiff]
        refine q _ ?_ i2
        have u1 : Upd h h1 lb := Ext.upd (by repeat (first | assumption | exact Ext.refl _ | refine Ext.push ?_ | refine Ext.set ?_ (by omega) | refine Ext.trans ?_ (by assumption)))
        exact (u1.set (.inr rfl)).trans u2
  · intro h1 x1 hat
    have n_x1 := Ext.n_le x1; try simp only [push_n, set_n] at n_x1
    have hd : okM l (dropM l p) = (false, l) := by unfold dropM; simp [hat, okM]
    rw [hd] at q
    simp (disch := first | assumption | omega | (simp only [push_n, set_n]; done) | (simp only [push_n, set_n]; omega) | fail) only [go_sem, ↓reduceIte, Nat.reduceEqDiff, Nat.reduceAdd, Nat.reduceMul, Int.reduceToNat, Int.reduceAdd, Int.reduceTDiv, Nat.reduceLeDiff, x1.2]
    exact q _ (Ext.upd (by repeat (first | assumption | exact Ext.refl _ | refine Ext.push ?_ | refine Ext.set ?_ (by omega) | refine Ext.trans ?_ (by assumption)))) (hi.ext (by repeat (first | assumption | exact Ext.refl _ | refine Ext.push ?_ | refine Ext.set ?_ (by omega) | refine Ext.trans ?_ (by assumption))))

theorem Ck.kind_run {c : Ck} (h : c.kind = 1) : ∃ k b, c = .run k b := by
  cases c <;> simp [Ck.kind] at h
  exact ⟨_, _, rfl⟩
theorem Ck.kind_huge {c : Ck} (h : c.kind = 2) : ∃ n, c = .huge n := by
  cases c <;> simp [Ck.kind] at h
  exact ⟨_, rfl⟩

theorem f13_spec {h : Heap} {Q : Value → Heap → Prop} {xb lb : Nat} {l : List One} {p : Pl} (hb : blocks h) (hi : IX h xb lb l) (hn : l.length ≤ 1000)
    (q : ∀ h', Upd h h' lb → IX h' xb lb (okM l (keepM l p)).2 → Q (.bool (okM l (keepM l p)).1) h') : WC T (.func (.func 13) #[] #[]) [.pointer (some ⟨xb, 0, none⟩), p.val] h Q := by
  refine WC_fn T13 rfl ?_
  have xn := hi.xn
  have ln := hi.ln
  have gp : getAt p.cells 0 5 = some p.cells := rfl
  simp (disch := first | assumption | omega | (simp only [push_n, set_n]; done) | (simp only [push_n, set_n]; omega) | fail) only [go_sem, ↓reduceIte, Nat.reduceEqDiff, Nat.reduceAdd, Nat.reduceMul, Int.reduceToNat, Int.reduceAdd, Int.reduceTDiv, Nat.reduceLeDiff, ir13, gp]
  refine f47_spec (hb.ext (by repeat (first | assumption | exact Ext.refl _ | refine Ext.push ?_ | refine Ext.set ?_ (by omega) | refine Ext.trans ?_ (by assumption)))) (hi.ext (by repeat (first | assumption | exact Ext.refl _ | refine Ext.push ?_ | refine Ext.set ?_ (by omega) | refine Ext.trans ?_ (by assumption)))) ?_ ?_
  · intro i b h1 x1 hat
    have n_x1 := Ext.n_le x1; try simp only [push_n, set_n] at n_x1
    obtain ⟨o, ho, hpi, hcase⟩ := atM_some hat
    have hil : i < l.length := by
      rcases Nat.lt_or_ge i l.length with h1 | h1
      · exact h1
      · rw [List.getElem?_eq_none h1] at ho; cases ho
    have hne : l ≠ [] := by intro e; subst e; simp at hil
    have il := hi.l hne
    have p5 := one_part ho 5 1 (by omega)
    have u1 : Upd h h1 lb := Ext.upd (by repeat (first | assumption | exact Ext.refl _ | refine Ext.push ?_ | refine Ext.set ?_ (by omega) | refine Ext.trans ?_ (by assumption)))
    by_cases ht : o.t &&& b = 0#64
    · have hd : okM l (keepM l p) = (false, l) := by unfold keepM; simp [hat, ho, ht, okM]
      rw [hd] at q
      simp (disch := first | assumption | omega | (simp only [push_n, set_n]; done) | (simp only [push_n, set_n]; omega) | fail) only [go_sem, ↓reduceIte, Nat.reduceEqDiff, Nat.reduceAdd, Nat.reduceMul, Int.reduceToNat, Int.reduceAdd, Int.reduceTDiv, Nat.reduceLeDiff, x1.2, il, p5, One.cells, ht]
      exact q _ (Ext.upd (by repeat (first | assumption | exact Ext.refl _ | refine Ext.push ?_ | refine Ext.set ?_ (by omega) | refine Ext.trans ?_ (by assumption)))) (hi.ext (by repeat (first | assumption | exact Ext.refl _ | refine Ext.push ?_ | refine Ext.set ?_ (by omega) | refine Ext.trans ?_ (by assumption))))
    · have hd : okM l (keepM l p) = (true, l.set i ⟨o.c.with b, o.t &&& ~~~b⟩) := by unfold keepM; simp [hat, ho, ht, okM]
      rw [hd] at q
      have g2 := one_set (o' := ⟨o.c, o.t &&& ~~~b⟩) ho 5 [ub (o.t &&& ~~~b)] (Nat.le_refl 6) rfl
      have ho2 : (l.set i ⟨o.c, o.t &&& ~~~b⟩)[i]? = some ⟨o.c, o.t &&& ~~~b⟩ := by simp [hil]
      have p0 := one_part ho2 0 1 (by omega)
      rw [Nat.add_zero] at p0
      have p4 := one_part ho2 4 1 (by omega)
      have ix1 := IX.write (hi.ext (h' := h1) (by repeat (first | assumption | exact Ext.refl _ | refine Ext.push ?_ | refine Ext.set ?_ (by omega) | refine Ext.trans ?_ (by assumption)))) (l' := l.set i ⟨o.c, o.t &&& ~~~b⟩) (by rw [List.length_set])
      rcases hcase with ⟨_, k2, _⟩ | ⟨_, k1, _⟩
      · obtain ⟨n, hc⟩ := Ck.kind_huge k2
        have hw : o.c.with b = o.c := by rw [hc]; rfl
        rw [hw] at q
        simp (disch := first | assumption | omega | (simp only [push_n, set_n]; done) | (simp only [push_n, set_n]; omega) | fail) only [go_sem, ↓reduceIte, Nat.reduceEqDiff, Nat.reduceAdd, Nat.reduceMul, Int.reduceToNat, Int.reduceAdd, Int.reduceTDiv, Nat.reduceLeDiff, x1.2, il, p5, One.cells, ht, flat_length, g2, p0]
        exact q _ (u1.set (.inr rfl)) ix1
      · obtain ⟨k, bb, hc⟩ := Ck.kind_run k1
        have hw : o.c.with b = .run k (bb ||| b) := by rw [hc]; rfl
        have hbits : o.c.bits = bb := by rw [hc]; rfl
        have g4 := one_set (o' := ⟨o.c.with b, o.t &&& ~~~b⟩) ho2 4 [ub (bb ||| b)] (by decide : 5 ≤ 6) (by rw [hc]; rfl)
        rw [List.set_set] at g4
        simp (disch := first | assumption | omega | (simp only [push_n, set_n]; done) | (simp only [push_n, set_n]; omega) | fail) only [go_sem, ↓reduceIte, Nat.reduceEqDiff, Nat.reduceAdd, Nat.reduceMul, Int.reduceToNat, Int.reduceAdd, Int.reduceTDiv, Nat.reduceLeDiff, x1.2, il, p5, One.cells, ht, flat_length, g2, p0, p4, hbits, List.length_set, g4]
        refine q _ (u1.set (.inr rfl)) ?_
        exact IX.write (hi.ext (h' := h1) (by repeat (first | assumption | exact Ext.refl _ | refine Ext.push ?_ | refine Ext.set ?_ (by omega) | refine Ext.trans ?_ (by assumption)))) (by rw [List.length_set])
  · intro h1 x1 hat
    have n_x1 := Ext.n_le x1; try simp only [push_n, set_n] at n_x1
    have hd : okM l (keepM l p) = (false, l) := by unfold keepM; simp [hat, okM]
    rw [hd] at q
    simp (disch := first | assumption | omega | (simp only [push_n, set_n]; done) | (simp only [push_n, set_n]; omega) | fail) only [go_sem, ↓reduceIte, Nat.reduceEqDiff, Nat.reduceAdd, Nat.reduceMul, Int.reduceToNat, Int.reduceAdd, Int.reduceTDiv, Nat.reduceLeDiff, x1.2]
    exact q _ (Ext.upd (by repeat (first | assumption | exact Ext.refl _ | refine Ext.push ?_ | refine Ext.set ?_ (by omega) | refine Ext.trans ?_ (by assumption)))) (hi.ext (by repeat (first | assumption | exact Ext.refl _ | refine Ext.push ?_ | refine Ext.set ?_ (by omega) | refine Ext.trans ?_ (by assumption))))

theorem f14_spec {h : Heap} {Q : Value → Heap → Prop} {xb lb : Nat} {l : List One} {p : Pl} (hb : blocks h) (hi : IX h xb lb l) (hn : l.length ≤ 1000) (hf : Fits l)
    (q : ∀ h', Upd h h' lb → IX h' xb lb (okM l (freeM l p)).2 → Q (.bool (okM l (freeM l p)).1) h') : WC T (.func (.func 14) #[] #[]) [.pointer (some ⟨xb, 0, none⟩), p.val] h Q := by
  refine WC_fn T14 rfl ?_
  have xn := hi.xn
  have ln := hi.ln
  have gp : getAt p.cells 0 5 = some p.cells := rfl
  simp (disch := first | assumption | omega | (simp only [push_n, set_n]; done) | (simp only [push_n, set_n]; omega) | fail) only [go_sem, ↓reduceIte, Nat.reduceEqDiff, Nat.reduceAdd, Nat.reduceMul, Int.reduceToNat, Int.reduceAdd, Int.reduceTDiv, Nat.reduceLeDiff, ir14, gp]
  refine f47_spec (hb.ext (by repeat (first | assumption | exact Ext.refl _ | refine Ext.push ?_ | refine Ext.set ?_ (by omega) | refine Ext.trans ?_ (by assumption)))) (hi.ext (by repeat (first | assumption | exact Ext.refl _ | refine Ext.push ?_ | refine Ext.set ?_ (by omega) | refine Ext.trans ?_ (by assumption)))) ?_ ?_
  · intro i b h1 x1 hat
    have n_x1 := Ext.n_le x1; try simp only [push_n, set_n] at n_x1
    obtain ⟨o, ho, hpi, hcase⟩ := atM_some hat
    have hil : i < l.length := by
      rcases Nat.lt_or_ge i l.length with h1 | h1
      · exact h1
      · rw [List.getElem?_eq_none h1] at ho; cases ho
    have hne : l ≠ [] := by intro e; subst e; simp at hil
    have il := hi.l hne
    have p0 := one_part ho 0 1 (by omega)
    rw [Nat.add_zero] at p0
    have p4 := one_part ho 4 1 (by omega)
    have p5 := one_part ho 5 1 (by omega)
    have u1 : Upd h h1 lb := Ext.upd (by repeat (first | assumption | exact Ext.refl _ | refine Ext.push ?_ | refine Ext.set ?_ (by omega) | refine Ext.trans ?_ (by assumption)))
    have gone : ∀ o' : One, WC T (.func (.func 48) #[] #[]) [.pointer (some ⟨xb, 0, none⟩), p.val] (h1.set lb (.cells ((l.set i o').map One.cells).flatten 75 false)) (fun v h2 => Upd h h2 lb ∧ IX h2 xb lb (goneM (l.set i o') p)) := fun o' => by
      refine f48_spec (IX.write (hi.ext (h' := h1) (by repeat (first | assumption | exact Ext.refl _ | refine Ext.push ?_ | refine Ext.set ?_ (by omega) | refine Ext.trans ?_ (by assumption)))) (by rw [List.length_set])) (by rw [List.length_set]; exact hn) ?_ ?_
      · intro hc
        rcases hcase with ⟨_, k2, k3, _⟩ | ⟨k0, _⟩
        · exact ⟨i, o.c.many, hpi, k3.symm, by rw [List.length_set]; exact hf i o ho k2⟩
        · exact (k0 hc).elim
      · intro h2 u2 i2
        exact ⟨(u1.set (.inr rfl)).trans u2, i2⟩
    rcases hcase with ⟨_, k2, _⟩ | ⟨_, k1, _⟩
    · obtain ⟨n, hc⟩ := Ck.kind_huge k2
      have hw : o.c.without b = o.c := by rw [hc]; rfl
      have hbits : o.c.bits = 0#64 := by rw [hc]; rfl
      by_cases ht : o.t = 0#64
      · have hd : okM l (freeM l p) = (true, goneM (l.set i ⟨o.c.without b, o.t⟩) p) := by unfold freeM; simp [hat, ho, ht, okM, k2]
        rw [hd] at q
        have g4 := one_set (o' := ⟨o.c.without b, o.t⟩) ho 4 [ub (0#64 &&& ~~~b)] (by decide : 5 ≤ 6) (by rw [hw]; unfold One.cells; rw [hbits]; simp [setAt])
        simp (disch := first | assumption | omega | (simp only [push_n, set_n]; done) | (simp only [push_n, set_n]; omega) | fail) only [go_sem, ↓reduceIte, Nat.reduceEqDiff, Nat.reduceAdd, Nat.reduceMul, Int.reduceToNat, Int.reduceAdd, Int.reduceTDiv, Nat.reduceLeDiff, x1.2, il, p0, p4, p5, One.cells, ht, flat_length, hbits, g4, gp]
        rw [ht] at q
        refine (gone _).mono fun v h2 hv => ?_
        simp (disch := first | assumption | omega | (simp only [push_n, set_n]; done) | (simp only [push_n, set_n]; omega) | fail) only [go_sem, ↓reduceIte, Nat.reduceEqDiff, Nat.reduceAdd, Nat.reduceMul, Int.reduceToNat, Int.reduceAdd, Int.reduceTDiv, Nat.reduceLeDiff]
        exact q _ hv.1 hv.2
      · have hd : okM l (freeM l p) = (false, l) := by unfold freeM; simp [hat, ho, ht, okM, k2]
        rw [hd] at q
        simp (disch := first | assumption | omega | (simp only [push_n, set_n]; done) | (simp only [push_n, set_n]; omega) | fail) only [go_sem, ↓reduceIte, Nat.reduceEqDiff, Nat.reduceAdd, Nat.reduceMul, Int.reduceToNat, Int.reduceAdd, Int.reduceTDiv, Nat.reduceLeDiff, x1.2, il, p0, p4, p5, One.cells, ht]
        exact q _ (Ext.upd (by repeat (first | assumption | exact Ext.refl _ | refine Ext.push ?_ | refine Ext.set ?_ (by omega) | refine Ext.trans ?_ (by assumption)))) (hi.ext (by repeat (first | assumption | exact Ext.refl _ | refine Ext.push ?_ | refine Ext.set ?_ (by omega) | refine Ext.trans ?_ (by assumption))))
    · obtain ⟨k, bb, hc⟩ := Ck.kind_run k1
      have hw : o.c.without b = .run k (bb &&& ~~~b) := by rw [hc]; rfl
      have hbits : o.c.bits = bb := by rw [hc]; rfl
      by_cases ht : bb &&& b = 0#64
      · have hd : okM l (freeM l p) = (false, l) := by unfold freeM; simp [hat, ho, ht, okM, k1, hbits]
        rw [hd] at q
        simp (disch := first | assumption | omega | (simp only [push_n, set_n]; done) | (simp only [push_n, set_n]; omega) | fail) only [go_sem, ↓reduceIte, Nat.reduceEqDiff, Nat.reduceAdd, Nat.reduceMul, Int.reduceToNat, Int.reduceAdd, Int.reduceTDiv, Nat.reduceLeDiff, x1.2, il, p0, p4, p5, One.cells, ht, hbits]
        exact q _ (Ext.upd (by repeat (first | assumption | exact Ext.refl _ | refine Ext.push ?_ | refine Ext.set ?_ (by omega) | refine Ext.trans ?_ (by assumption)))) (hi.ext (by repeat (first | assumption | exact Ext.refl _ | refine Ext.push ?_ | refine Ext.set ?_ (by omega) | refine Ext.trans ?_ (by assumption))))
      · have hd : okM l (freeM l p) = (true, goneM (l.set i ⟨o.c.without b, o.t⟩) p) := by unfold freeM; simp [hat, ho, ht, okM, k1, hbits]
        rw [hd] at q
        have g4 := one_set (o' := ⟨o.c.without b, o.t⟩) ho 4 [ub (bb &&& ~~~b)] (by decide : 5 ≤ 6) (by unfold One.cells; rw [hc]; rfl)
        simp (disch := first | assumption | omega | (simp only [push_n, set_n]; done) | (simp only [push_n, set_n]; omega) | fail) only [go_sem, ↓reduceIte, Nat.reduceEqDiff, Nat.reduceAdd, Nat.reduceMul, Int.reduceToNat, Int.reduceAdd, Int.reduceTDiv, Nat.reduceLeDiff, x1.2, il, p0, p4, p5, One.cells, ht, flat_length, hbits, g4, gp]
        refine (gone _).mono fun v h2 hv => ?_
        simp (disch := first | assumption | omega | (simp only [push_n, set_n]; done) | (simp only [push_n, set_n]; omega) | fail) only [go_sem, ↓reduceIte, Nat.reduceEqDiff, Nat.reduceAdd, Nat.reduceMul, Int.reduceToNat, Int.reduceAdd, Int.reduceTDiv, Nat.reduceLeDiff]
        exact q _ hv.1 hv.2
  · intro h1 x1 hat
    have n_x1 := Ext.n_le x1; try simp only [push_n, set_n] at n_x1
    have hd : okM l (freeM l p) = (false, l) := by unfold freeM; simp [hat, okM]
    rw [hd] at q
    simp (disch := first | assumption | omega | (simp only [push_n, set_n]; done) | (simp only [push_n, set_n]; omega) | fail) only [go_sem, ↓reduceIte, Nat.reduceEqDiff, Nat.reduceAdd, Nat.reduceMul, Int.reduceToNat, Int.reduceAdd, Int.reduceTDiv, Nat.reduceLeDiff, x1.2]
    exact q _ (Ext.upd (by repeat (first | assumption | exact Ext.refl _ | refine Ext.push ?_ | refine Ext.set ?_ (by omega) | refine Ext.trans ?_ (by assumption)))) (hi.ext (by repeat (first | assumption | exact Ext.refl _ | refine Ext.push ?_ | refine Ext.set ?_ (by omega) | refine Ext.trans ?_ (by assumption))))
end Go.Am.YtdcppkhobfbpeaaDoor
