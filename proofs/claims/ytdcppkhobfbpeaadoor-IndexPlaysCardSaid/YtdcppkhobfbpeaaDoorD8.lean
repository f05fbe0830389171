/-
  Where a place is; taking.
-/
import Derived.Test.YtdcppkhobfbpeaaDoorD7
set_option linter.unusedVariables false
set_option linter.unusedSimpArgs false
namespace Go.Am.YtdcppkhobfbpeaaDoor
open Go Go.Am Go.Proofs

/-- What a place is of: the chunk, and its bit. -/
def atM (l : List One) (p : Pl) : Option (Nat × BitVec 64) :=
  if 0 ≤ p.chunk then
    match l[p.chunk.toNat]? with
    | none => none
    | some o =>
      if p.cls = -1 then
        if o.c.kind = 2 ∧ (o.c.many : Int) = p.many ∧ p.index = 0 then some (p.chunk.toNat, 1#64) else none
      else
        if o.c.kind = 1 ∧ (o.c.cls : Int) = p.cls ∧ 0 ≤ p.index ∧ p.index < (manyOf o.c.cls : Int) then some (p.chunk.toNat, bitB p.index.toNat) else none
  else none

theorem f47_spec {h : Heap} {Q : Value → Heap → Prop} {xb lb : Nat} {l : List One} {p : Pl} (hb : blocks h) (hi : IX h xb lb l)
    (q1 : ∀ i b h', Ext h h' → atM l p = some (i, b) → Q (.tuple #[.pointer (some ⟨lb, i * 6, none⟩), ub b]) h')
    (q0 : ∀ h', Ext h h' → atM l p = none → Q (.tuple #[.pointer none, ub 0#64]) h') : WC T (.func (.func 47) #[] #[]) [.pointer (some ⟨xb, 0, none⟩), p.val] h Q := by
  refine WC_fn T47 rfl ?_
  obtain ⟨chunk, index, cls, many, fresh⟩ := p
  have xn := hi.xn
  have ln := hi.ln
  have ix := hi.x
  by_cases c1 : 0 ≤ chunk
  · obtain ⟨i, rfl⟩ : ∃ i : Nat, chunk = i := ⟨chunk.toNat, by omega⟩
    by_cases c2 : i < l.length
    · obtain ⟨o, ho⟩ : ∃ o, l[i]? = some o := ⟨_, List.getElem?_eq_getElem c2⟩
      have hne : l ≠ [] := by intro e; subst e; simp at c2
      have il := hi.l hne
      have p0 := one_part ho 0 1 (by omega)
      have p1 := one_part ho 1 1 (by omega)
      have p3 := one_part ho 3 1 (by omega)
      rw [Nat.add_zero] at p0
      by_cases c3 : cls = -1
      · subst c3
        by_cases k1 : o.c.kind = 2
        · by_cases k2 : (o.c.many : Int) = many
          · subst k2
            by_cases k3 : index = 0
            · subst k3
              simp (disch := first | assumption | omega | (simp only [push_n, set_n]; done) | (simp only [push_n, set_n]; omega) | fail) only [go_sem, ↓reduceIte, Nat.reduceEqDiff, Nat.reduceAdd, Nat.reduceMul, Int.reduceToNat, Int.reduceAdd, Int.reduceTDiv, Nat.reduceLeDiff, ir47, Pl.cells, ix, il, p0, p1, p3, One.cells]
              refine q1 i 1#64 _ (by repeat (first | assumption | exact Ext.refl _ | refine Ext.push ?_ | refine Ext.set ?_ (by omega) | refine Ext.trans ?_ (by assumption))) ?_
              simp [atM, ho, k1]
            · simp (disch := first | assumption | omega | (simp only [push_n, set_n]; done) | (simp only [push_n, set_n]; omega) | fail) only [go_sem, ↓reduceIte, Nat.reduceEqDiff, Nat.reduceAdd, Nat.reduceMul, Int.reduceToNat, Int.reduceAdd, Int.reduceTDiv, Nat.reduceLeDiff, ir47, Pl.cells, ix, il, p0, p1, p3, One.cells]
              refine q0 _ (by repeat (first | assumption | exact Ext.refl _ | refine Ext.push ?_ | refine Ext.set ?_ (by omega) | refine Ext.trans ?_ (by assumption))) ?_
              simp [atM, ho, k1, k3]
          · simp (disch := first | assumption | omega | (simp only [push_n, set_n]; done) | (simp only [push_n, set_n]; omega) | fail) only [go_sem, ↓reduceIte, Nat.reduceEqDiff, Nat.reduceAdd, Nat.reduceMul, Int.reduceToNat, Int.reduceAdd, Int.reduceTDiv, Nat.reduceLeDiff, ir47, Pl.cells, ix, il, p0, p1, p3, One.cells]
            refine q0 _ (by repeat (first | assumption | exact Ext.refl _ | refine Ext.push ?_ | refine Ext.set ?_ (by omega) | refine Ext.trans ?_ (by assumption))) ?_
            simp [atM, ho, k1, k2]
        · simp (disch := first | assumption | omega | (simp only [push_n, set_n]; done) | (simp only [push_n, set_n]; omega) | fail) only [go_sem, ↓reduceIte, Nat.reduceEqDiff, Nat.reduceAdd, Nat.reduceMul, Int.reduceToNat, Int.reduceAdd, Int.reduceTDiv, Nat.reduceLeDiff, ir47, Pl.cells, ix, il, p0, p1, p3, One.cells]
          refine q0 _ (by repeat (first | assumption | exact Ext.refl _ | refine Ext.push ?_ | refine Ext.set ?_ (by omega) | refine Ext.trans ?_ (by assumption))) ?_
          simp [atM, ho, k1]
      · by_cases k1 : o.c.kind = 1
        · by_cases k2 : (o.c.cls : Int) = cls
          · subst k2
            by_cases k3 : 0 ≤ index
            · simp (disch := first | assumption | omega | (simp only [push_n, set_n]; done) | (simp only [push_n, set_n]; omega) | fail) only [go_sem, ↓reduceIte, Nat.reduceEqDiff, Nat.reduceAdd, Nat.reduceMul, Int.reduceToNat, Int.reduceAdd, Int.reduceTDiv, Nat.reduceLeDiff, ir47, Pl.cells, ix, il, p0, p1, p3, One.cells]
              refine f66_spec (hb.ext (by repeat (first | assumption | exact Ext.refl _ | refine Ext.push ?_ | refine Ext.set ?_ (by omega) | refine Ext.trans ?_ (by assumption)))) ?_
              by_cases k4 : index < (manyOf o.c.cls : Int)
              · simp (disch := first | assumption | omega | (simp only [push_n, set_n]; done) | (simp only [push_n, set_n]; omega) | fail) only [go_sem, ↓reduceIte, Nat.reduceEqDiff, Nat.reduceAdd, Nat.reduceMul, Int.reduceToNat, Int.reduceAdd, Int.reduceTDiv, Nat.reduceLeDiff, ix, il, p0, p1, p3, One.cells]
                refine q1 i (bitB index.toNat) _ (by repeat (first | assumption | exact Ext.refl _ | refine Ext.push ?_ | refine Ext.set ?_ (by omega) | refine Ext.trans ?_ (by assumption))) ?_
                simp [atM, ho, k1, k3, k4]
              · simp (disch := first | assumption | omega | (simp only [push_n, set_n]; done) | (simp only [push_n, set_n]; omega) | fail) only [go_sem, ↓reduceIte, Nat.reduceEqDiff, Nat.reduceAdd, Nat.reduceMul, Int.reduceToNat, Int.reduceAdd, Int.reduceTDiv, Nat.reduceLeDiff, ix, il, p0, p1, p3, One.cells]
                refine q0 _ (by repeat (first | assumption | exact Ext.refl _ | refine Ext.push ?_ | refine Ext.set ?_ (by omega) | refine Ext.trans ?_ (by assumption))) ?_
                simp [atM, ho, k1, k3, k4]
            · simp (disch := first | assumption | omega | (simp only [push_n, set_n]; done) | (simp only [push_n, set_n]; omega) | fail) only [go_sem, ↓reduceIte, Nat.reduceEqDiff, Nat.reduceAdd, Nat.reduceMul, Int.reduceToNat, Int.reduceAdd, Int.reduceTDiv, Nat.reduceLeDiff, ir47, Pl.cells, ix, il, p0, p1, p3, One.cells]
              refine q0 _ (by repeat (first | assumption | exact Ext.refl _ | refine Ext.push ?_ | refine Ext.set ?_ (by omega) | refine Ext.trans ?_ (by assumption))) ?_
              simp [atM, ho, k1, k3]
          · simp (disch := first | assumption | omega | (simp only [push_n, set_n]; done) | (simp only [push_n, set_n]; omega) | fail) only [go_sem, ↓reduceIte, Nat.reduceEqDiff, Nat.reduceAdd, Nat.reduceMul, Int.reduceToNat, Int.reduceAdd, Int.reduceTDiv, Nat.reduceLeDiff, ir47, Pl.cells, ix, il, p0, p1, p3, One.cells]
            refine q0 _ (by repeat (first | assumption | exact Ext.refl _ | refine Ext.push ?_ | refine Ext.set ?_ (by omega) | refine Ext.trans ?_ (by assumption))) ?_
            simp [atM, ho, k1, k2, c3]
        · simp (disch := first | assumption | omega | (simp only [push_n, set_n]; done) | (simp only [push_n, set_n]; omega) | fail) only [go_sem, ↓reduceIte, Nat.reduceEqDiff, Nat.reduceAdd, Nat.reduceMul, Int.reduceToNat, Int.reduceAdd, Int.reduceTDiv, Nat.reduceLeDiff, ir47, Pl.cells, ix, il, p0, p1, p3, One.cells]
          refine q0 _ (by repeat (first | assumption | exact Ext.refl _ | refine Ext.push ?_ | refine Ext.set ?_ (by omega) | refine Ext.trans ?_ (by assumption))) ?_
          simp [atM, ho, k1, c3]
    · simp (disch := first | assumption | omega | (simp only [push_n, set_n]; done) | (simp only [push_n, set_n]; omega) | fail) only [go_sem, ↓reduceIte, Nat.reduceEqDiff, Nat.reduceAdd, Nat.reduceMul, Int.reduceToNat, Int.reduceAdd, Int.reduceTDiv, Nat.reduceLeDiff, ir47, Pl.cells, ix]
      refine q0 _ (by repeat (first | assumption | exact Ext.refl _ | refine Ext.push ?_ | refine Ext.set ?_ (by omega) | refine Ext.trans ?_ (by assumption))) ?_
      simp [atM, List.getElem?_eq_none (show l.length ≤ i by omega)]
  · simp (disch := first | assumption | omega | (simp only [push_n, set_n]; done) | (simp only [push_n, set_n]; omega) | fail) only [go_sem, ↓reduceIte, Nat.reduceEqDiff, Nat.reduceAdd, Nat.reduceMul, Int.reduceToNat, Int.reduceAdd, Int.reduceTDiv, Nat.reduceLeDiff, ir47, Pl.cells, ix]
    refine q0 _ (by repeat (first | assumption | exact Ext.refl _ | refine Ext.push ?_ | refine Ext.set ?_ (by omega) | refine Ext.trans ?_ (by assumption))) ?_
    simp [atM, c1]

/-- So many chunks from one on are set. -/
def fillM (l : List One) (i n : Nat) (o : One) : List One := (List.range n).foldl (fun l k => l.set (i + k) o) l
theorem fillM_succ {l : List One} {i n : Nat} {o : One} : fillM l i (n + 1) o = (fillM l i n o).set (i + n) o := by
  unfold fillM; rw [List.range_succ, List.foldl_append]; rfl
theorem fillM_length {l : List One} {i n : Nat} {o : One} : (fillM l i n o).length = l.length := by
  induction n with
  | zero => rfl
  | succ n ih => rw [fillM_succ, List.length_set, ih]

def largeM (l : List One) (many : Nat) : Pl × Nat × List One :=
  match rowI (rowsOf (frees l)) many with
  | some i => (⟨i, 0, -1, many, false⟩, 0, (fillM l i many ⟨.tail, 0#64⟩).set i ⟨.huge many, 1#64⟩)
  | none => (⟨0, 0, 0, 0, false⟩, 2, l)

theorem f45_spec {h : Heap} {Q : Value → Heap → Prop} {xb lb many : Nat} {l : List One} (hi : IX h xb lb l) (hn : l.length ≤ 1000) (hm : many ≤ 1000) (hm1 : 1 ≤ many)
    (q : ∀ h', Upd h h' lb → IX h' xb lb (largeM l many).2.2 → Q (.tuple #[(largeM l many).1.val, .int .i64 (largeM l many).2.1]) h') : WC T (.func (.func 45) #[] #[]) [.pointer (some ⟨xb, 0, none⟩), .int .i64 many] h Q := by
  refine WC_fn T45 rfl ?_
  have xn := hi.xn
  have ln := hi.ln
  have lx := hi.ne
  have ix := hi.x
  simp (disch := first | assumption | omega | (simp only [push_n, set_n]; done) | (simp only [push_n, set_n]; omega) | fail) only [go_sem, ↓reduceIte, Nat.reduceEqDiff, Nat.reduceAdd, Nat.reduceMul, Int.reduceToNat, Int.reduceAdd, Int.reduceTDiv, Nat.reduceLeDiff, ir45]
  refine f58_spec (many := many) (l := l) (xb := xb) (lb := lb) (hi.ext (by repeat (first | assumption | exact Ext.refl _ | refine Ext.push ?_ | refine Ext.set ?_ (by omega) | refine Ext.trans ?_ (by assumption)))) hn (by omega) ?_ ?_
  · intro i h1 x1 hrow
    have n_x1 := Ext.n_le x1; try simp only [push_n, set_n] at n_x1
    have hil := rowI_lt hrow
    rw [show (frees l).length = l.length by simp [frees]] at hil
    have hne : l ≠ [] := by intro e; subst e; simp at hil
    have il := hi.l hne
    have hs : largeM l many = (⟨i, 0, -1, many, false⟩, 0, (fillM l i many ⟨.tail, 0#64⟩).set i ⟨.huge many, 1#64⟩) := by unfold largeM; simp only [hrow]
    rw [hs] at q
    simp (disch := first | assumption | omega | (simp only [push_n, set_n]; done) | (simp only [push_n, set_n]; omega) | fail) only [go_sem, ↓reduceIte, Nat.reduceEqDiff, Nat.reduceAdd, Nat.reduceMul, Int.reduceToNat, Int.reduceAdd, Int.reduceTDiv, Nat.reduceLeDiff, x1.2]
    refine WE_loop (fun m a h' => ∃ k : Nat, m = many - k ∧ k ≤ many ∧ a.get 0 = .pointer (some ⟨xb, 0, none⟩) ∧ a.get 1 = .int .i64 many ∧ a.get 4 = .pointer (some ⟨h.n, 0, none⟩) ∧ a.get 6 = .int .i64 i ∧ a.get 18 = .int .i64 many ∧ a.get 19 = .int .i64 k ∧ a.marks = [] ∧ h1.n ≤ h'.n ∧ (∀ j, j < h1.n → j ≠ lb → h'.get j = h1.get j) ∧ h'.get lb = .cells ((fillM l i k ⟨.tail, 0#64⟩).map One.cells).flatten 75 false) ?_ (m := many) ⟨0, by omega, by omega, by simp (disch := first | assumption | omega | (simp only [push_n, set_n]; done) | (simp only [push_n, set_n]; omega) | fail) only [go_sem, ↓reduceIte, Nat.reduceEqDiff, Nat.reduceAdd, Nat.reduceMul, Int.reduceToNat, Int.reduceAdd, Int.reduceTDiv, Nat.reduceLeDiff], by simp (disch := first | assumption | omega | (simp only [push_n, set_n]; done) | (simp only [push_n, set_n]; omega) | fail) only [go_sem, ↓reduceIte, Nat.reduceEqDiff, Nat.reduceAdd, Nat.reduceMul, Int.reduceToNat, Int.reduceAdd, Int.reduceTDiv, Nat.reduceLeDiff], by simp (disch := first | assumption | omega | (simp only [push_n, set_n]; done) | (simp only [push_n, set_n]; omega) | fail) only [go_sem, ↓reduceIte, Nat.reduceEqDiff, Nat.reduceAdd, Nat.reduceMul, Int.reduceToNat, Int.reduceAdd, Int.reduceTDiv, Nat.reduceLeDiff], by simp (disch := first | assumption | omega | (simp only [push_n, set_n]; done) | (simp only [push_n, set_n]; omega) | fail) only [go_sem, ↓reduceIte, Nat.reduceEqDiff, Nat.reduceAdd, Nat.reduceMul, Int.reduceToNat, Int.reduceAdd, Int.reduceTDiv, Nat.reduceLeDiff], by simp (disch := first | assumption | omega | (simp only [push_n, set_n]; done) | (simp only [push_n, set_n]; omega) | fail) only [go_sem, ↓reduceIte, Nat.reduceEqDiff, Nat.reduceAdd, Nat.reduceMul, Int.reduceToNat, Int.reduceAdd, Int.reduceTDiv, Nat.reduceLeDiff], by simp (disch := first | assumption | omega | (simp only [push_n, set_n]; done) | (simp only [push_n, set_n]; omega) | fail) only [go_sem, ↓reduceIte, Nat.reduceEqDiff, Nat.reduceAdd, Nat.reduceMul, Int.reduceToNat, Int.reduceAdd, Int.reduceTDiv, Nat.reduceLeDiff], rfl, Nat.le_refl _, fun _ _ _ => rfl, by simp (disch := first | assumption | omega | (simp only [push_n, set_n]; done) | (simp only [push_n, set_n]; omega) | fail) only [go_sem, ↓reduceIte, Nat.reduceEqDiff, Nat.reduceAdd, Nat.reduceMul, Int.reduceToNat, Int.reduceAdd, Int.reduceTDiv, Nat.reduceLeDiff, x1.2, il]; rfl⟩
    rintro m a h2 ⟨k, rfl, hk, a0, a1, a4, a6, a18, a19, am, n2, g2, gl⟩
    have gx := (g2 xb (by omega) (Ne.symm lx)).trans ((x1.2 xb (by (first | omega | (simp only [push_n, set_n]; done) | (simp only [push_n, set_n]; omega)))).trans (get_push_lt (b := .cells [.int .i64 0, .int .i64 0, .int .i64 0, .int .i64 0, .bool false] 30 false) xn))
    rw [ix] at gx
    by_cases hkm : k < many
    · have gs : setAt ((fillM l i k ⟨.tail, 0#64⟩).map One.cells).flatten ((i + k) * 6) [.int .i64 3, .int .i64 0, .int .i64 0, .int .i64 0, ub 0#64, ub 0#64] = ((fillM l i (k + 1) ⟨.tail, 0#64⟩).map One.cells).flatten := by
        rw [fillM_succ]
        exact one_set0 (o' := ⟨.tail, 0#64⟩) (by rw [fillM_length]; omega)
      have ei : ((i : Int) + (k : Int)).toNat = i + k := by omega
      simp (disch := first | assumption | omega | (simp only [push_n, set_n]; done) | (simp only [push_n, set_n]; omega) | fail) only [go_sem, ↓reduceIte, Nat.reduceEqDiff, Nat.reduceAdd, Nat.reduceMul, Int.reduceToNat, Int.reduceAdd, Int.reduceTDiv, Nat.reduceLeDiff, a0, a1, a4, a6, a18, a19, am, gx, gl, flat_length, fillM_length, ei, gs]
      refine ⟨_, Nat.sub_lt_sub_left hkm (Nat.lt_succ_self k), k + 1, rfl, by omega, rfl, by omega, fun j hj hjl => ?_, rfl⟩
      simp (disch := first | assumption | omega | (simp only [push_n, set_n]; done) | (simp only [push_n, set_n]; omega) | fail) only [go_sem, ↓reduceIte, Nat.reduceEqDiff, Nat.reduceAdd, Nat.reduceMul, Int.reduceToNat, Int.reduceAdd, Int.reduceTDiv, Nat.reduceLeDiff, g2]
    · obtain rfl : k = many := by omega
      have gs : setAt ((fillM l i k ⟨.tail, 0#64⟩).map One.cells).flatten (i * 6) [.int .i64 2, .int .i64 0, .int .i64 0, .int .i64 k, ub 0#64, ub 1#64] = (((fillM l i k ⟨.tail, 0#64⟩).set i ⟨.huge k, 1#64⟩).map One.cells).flatten := one_set0 (o' := ⟨.huge k, 1#64⟩) (by rw [fillM_length]; omega)
      have gp : h2.get h.n = .cells [.int .i64 0, .int .i64 0, .int .i64 0, .int .i64 0, .bool false] 30 false := by
        rw [g2 h.n (by omega) (by omega)]; simp (disch := first | assumption | omega | (simp only [push_n, set_n]; done) | (simp only [push_n, set_n]; omega) | fail) only [go_sem, ↓reduceIte, Nat.reduceEqDiff, Nat.reduceAdd, Nat.reduceMul, Int.reduceToNat, Int.reduceAdd, Int.reduceTDiv, Nat.reduceLeDiff, x1.2]
      simp (disch := first | assumption | omega | (simp only [push_n, set_n]; done) | (simp only [push_n, set_n]; omega) | fail) only [go_sem, ↓reduceIte, Nat.reduceEqDiff, Nat.reduceAdd, Nat.reduceMul, Int.reduceToNat, Int.reduceAdd, Int.reduceTDiv, Nat.reduceLeDiff, a0, a1, a4, a6, a18, a19, am, gx, gl, flat_length, fillM_length, gs, gp]
      refine q _ ⟨by (first | omega | (simp only [push_n, set_n]; done) | (simp only [push_n, set_n]; omega)), fun j hj hjl => ?_⟩ ⟨by (first | omega | (simp only [push_n, set_n]; done) | (simp only [push_n, set_n]; omega)), by (first | omega | (simp only [push_n, set_n]; done) | (simp only [push_n, set_n]; omega)), lx, ?_, fun _ => ?_⟩
      · simp (disch := first | assumption | omega | (simp only [push_n, set_n]; done) | (simp only [push_n, set_n]; omega) | fail) only [go_sem, ↓reduceIte, Nat.reduceEqDiff, Nat.reduceAdd, Nat.reduceMul, Int.reduceToNat, Int.reduceAdd, Int.reduceTDiv, Nat.reduceLeDiff, g2, x1.2]
      · simp (disch := first | assumption | omega | (simp only [push_n, set_n]; done) | (simp only [push_n, set_n]; omega) | fail) only [go_sem, ↓reduceIte, Nat.reduceEqDiff, Nat.reduceAdd, Nat.reduceMul, Int.reduceToNat, Int.reduceAdd, Int.reduceTDiv, Nat.reduceLeDiff, gx, List.length_set, fillM_length]
      · simp (disch := first | assumption | omega | (simp only [push_n, set_n]; done) | (simp only [push_n, set_n]; omega) | fail) only [go_sem, ↓reduceIte, Nat.reduceEqDiff, Nat.reduceAdd, Nat.reduceMul, Int.reduceToNat, Int.reduceAdd, Int.reduceTDiv, Nat.reduceLeDiff]
  · intro h1 x1 hrow
    have n_x1 := Ext.n_le x1; try simp only [push_n, set_n] at n_x1
    have hs : largeM l many = (⟨0, 0, 0, 0, false⟩, 2, l) := by unfold largeM; simp only [hrow]
    rw [hs] at q
    simp (disch := first | assumption | omega | (simp only [push_n, set_n]; done) | (simp only [push_n, set_n]; omega) | fail) only [go_sem, ↓reduceIte, Nat.reduceEqDiff, Nat.reduceAdd, Nat.reduceMul, Int.reduceToNat, Int.reduceAdd, Int.reduceTDiv, Nat.reduceLeDiff, x1.2]
    exact q _ (Ext.upd (by repeat (first | assumption | exact Ext.refl _ | refine Ext.push ?_ | refine Ext.set ?_ (by omega) | refine Ext.trans ?_ (by assumption)))) (hi.ext (by repeat (first | assumption | exact Ext.refl _ | refine Ext.push ?_ | refine Ext.set ?_ (by omega) | refine Ext.trans ?_ (by assumption))))

/-- Taking. -/
def takeM (l : List One) (n : Nat) : Pl × Nat × List One := match clsOf n with
  | some k => smallM l k
  | none => largeM l (chunksOf n)

theorem f12_spec {h : Heap} {Q : Value → Heap → Prop} {xb lb n : Nat} {l : List One} (hb : blocks h) (hi : IX h xb lb l) (hn : l.length ≤ 1000) (h1 : n ≤ 4096)
    (q : ∀ h', Upd h h' lb → IX h' xb lb (takeM l n).2.2 → Q (.tuple #[(takeM l n).1.val, .int .i64 (takeM l n).2.1]) h') : WC T (.func (.func 12) #[] #[]) [.pointer (some ⟨xb, 0, none⟩), .int .i64 n] h Q := by
  refine WC_fn T12 rfl ?_
  have xn := hi.xn
  have ln := hi.ln
  simp (disch := first | assumption | omega | (simp only [push_n, set_n]; done) | (simp only [push_n, set_n]; omega) | fail) only [go_sem, ↓reduceIte, Nat.reduceEqDiff, Nat.reduceAdd, Nat.reduceMul, Int.reduceToNat, Int.reduceAdd, Int.reduceTDiv, Nat.reduceLeDiff, ir12]
  refine f42_spec (hb.ext (by repeat (first | assumption | exact Ext.refl _ | refine Ext.push ?_ | refine Ext.set ?_ (by omega) | refine Ext.trans ?_ (by assumption)))) h1 ?_
  simp (disch := first | assumption | omega | (simp only [push_n, set_n]; done) | (simp only [push_n, set_n]; omega) | fail) only [go_sem, ↓reduceIte, Nat.reduceEqDiff, Nat.reduceAdd, Nat.reduceMul, Int.reduceToNat, Int.reduceAdd, Int.reduceTDiv, Nat.reduceLeDiff]
  refine f43_spec (by omega) (by omega) ?_
  cases hc : clsOf n with
  | some k =>
    have hk : k < 3 := by unfold clsOf at hc; repeat (first | (injection hc with hc; omega) | cases hc | split at hc)
    have e : clsI n = k := by unfold clsI; rw [hc]
    have et : takeM l n = smallM l k := by unfold takeM; rw [hc]
    rw [et] at q
    rw [e]
    simp (disch := first | assumption | omega | (simp only [push_n, set_n]; done) | (simp only [push_n, set_n]; omega) | fail) only [go_sem, ↓reduceIte, Nat.reduceEqDiff, Nat.reduceAdd, Nat.reduceMul, Int.reduceToNat, Int.reduceAdd, Int.reduceTDiv, Nat.reduceLeDiff]
    refine f44_spec (hb.ext (by repeat (first | assumption | exact Ext.refl _ | refine Ext.push ?_ | refine Ext.set ?_ (by omega) | refine Ext.trans ?_ (by assumption)))) (hi.ext (by repeat (first | assumption | exact Ext.refl _ | refine Ext.push ?_ | refine Ext.set ?_ (by omega) | refine Ext.trans ?_ (by assumption)))) hn hk fun h2 u2 i2 => ?_
    have n2 := u2.1
    simp only [push_n] at n2
    simp (disch := first | assumption | omega | (simp only [push_n, set_n]; done) | (simp only [push_n, set_n]; omega) | fail) only [go_sem, ↓reduceIte, Nat.reduceEqDiff, Nat.reduceAdd, Nat.reduceMul, Int.reduceToNat, Int.reduceAdd, Int.reduceTDiv, Nat.reduceLeDiff, u2.2]
    generalize smallM l k = r at *
    obtain ⟨p, e, l'⟩ := r
    simp (disch := first | assumption | omega | (simp only [push_n, set_n]; done) | (simp only [push_n, set_n]; omega) | fail) only [go_sem, ↓reduceIte, Nat.reduceEqDiff, Nat.reduceAdd, Nat.reduceMul, Int.reduceToNat, Int.reduceAdd, Int.reduceTDiv, Nat.reduceLeDiff, u2.2, Pl.cells]
    exact q _ (u2.of_push.set (.inl (Nat.le_refl _))) (i2.set (by omega) (by omega))
  | none =>
    have hk : 14 < n := by unfold clsOf at hc; repeat (first | omega | cases hc | split at hc)
    have e : clsI n = -1 := by unfold clsI; rw [hc]
    have et : takeM l n = largeM l (chunksOf n) := by unfold takeM; rw [hc]
    rw [et] at q
    rw [e]
    have hc2 : chunksOf n ≤ 1000 ∧ 1 ≤ chunksOf n := by unfold chunksOf; omega
    simp (disch := first | assumption | omega | (simp only [push_n, set_n]; done) | (simp only [push_n, set_n]; omega) | fail) only [go_sem, ↓reduceIte, Nat.reduceEqDiff, Nat.reduceAdd, Nat.reduceMul, Int.reduceToNat, Int.reduceAdd, Int.reduceTDiv, Nat.reduceLeDiff]
    refine f46_spec (hb.ext (by repeat (first | assumption | exact Ext.refl _ | refine Ext.push ?_ | refine Ext.set ?_ (by omega) | refine Ext.trans ?_ (by assumption)))) h1 hk ?_
    simp (disch := first | assumption | omega | (simp only [push_n, set_n]; done) | (simp only [push_n, set_n]; omega) | fail) only [go_sem, ↓reduceIte, Nat.reduceEqDiff, Nat.reduceAdd, Nat.reduceMul, Int.reduceToNat, Int.reduceAdd, Int.reduceTDiv, Nat.reduceLeDiff]
    refine f45_spec (hi.ext (by repeat (first | assumption | exact Ext.refl _ | refine Ext.push ?_ | refine Ext.set ?_ (by omega) | refine Ext.trans ?_ (by assumption)))) hn hc2.1 hc2.2 fun h2 u2 i2 => ?_
    have n2 := u2.1
    simp only [push_n] at n2
    simp (disch := first | assumption | omega | (simp only [push_n, set_n]; done) | (simp only [push_n, set_n]; omega) | fail) only [go_sem, ↓reduceIte, Nat.reduceEqDiff, Nat.reduceAdd, Nat.reduceMul, Int.reduceToNat, Int.reduceAdd, Int.reduceTDiv, Nat.reduceLeDiff, u2.2]
    generalize largeM l (chunksOf n) = r at *
    obtain ⟨p, e, l'⟩ := r
    simp (disch := first | assumption | omega | (simp only [push_n, set_n]; done) | (simp only [push_n, set_n]; omega) | fail) only [go_sem, ↓reduceIte, Nat.reduceEqDiff, Nat.reduceAdd, Nat.reduceMul, Int.reduceToNat, Int.reduceAdd, Int.reduceTDiv, Nat.reduceLeDiff, u2.2, Pl.cells]
    exact q _ (u2.of_push.set (.inl (Nat.le_refl _))) (i2.set (by omega) (by omega))

/-- A huge one's chunks are freed. -/
def goneM (l : List One) (p : Pl) : List One := if p.cls = -1 then fillM l p.chunk.toNat p.many.toNat ⟨.free, 0#64⟩ else l

theorem f48_spec {h : Heap} {Q : Value → Heap → Prop} {xb lb : Nat} {l : List One} {p : Pl} (hi : IX h xb lb l) (hn : l.length ≤ 1000) (hp : p.cls = -1 → ∃ i m : Nat, p.chunk = i ∧ p.many = m ∧ i + m ≤ l.length)
    (q : ∀ h', Upd h h' lb → IX h' xb lb (goneM l p) → Q (.tuple #[]) h') : WC T (.func (.func 48) #[] #[]) [.pointer (some ⟨xb, 0, none⟩), p.val] h Q := by
  refine WC_fn T48 rfl ?_
  obtain ⟨chunk, index, cls, many, fresh⟩ := p
  have xn := hi.xn
  have ln := hi.ln
  have lx := hi.ne
  have ix := hi.x
  by_cases hc : cls = -1
  · obtain ⟨i, m, e1, e2, him⟩ := hp hc
    simp only at e1 e2
    subst hc e1 e2
    have hg : goneM l ⟨i, index, -1, m, fresh⟩ = fillM l i m ⟨.free, 0#64⟩ := by unfold goneM; rw [if_pos rfl]; simp
    rw [hg] at q
    simp (disch := first | assumption | omega | (simp only [push_n, set_n]; done) | (simp only [push_n, set_n]; omega) | fail) only [go_sem, ↓reduceIte, Nat.reduceEqDiff, Nat.reduceAdd, Nat.reduceMul, Int.reduceToNat, Int.reduceAdd, Int.reduceTDiv, Nat.reduceLeDiff, ir48, Pl.cells]
    have il : ∃ c e ro, (l ≠ [] → c = (l.map One.cells).flatten ∧ e = 75 ∧ ro = false) ∧ (0 < m → h.get lb = .cells c e ro) := by
      refine ⟨_, _, _, fun _ => ⟨rfl, rfl, rfl⟩, fun hm => hi.l ?_⟩
      intro e; subst e; simp at him; omega
    refine WE_loop (fun t a h' => ∃ k : Nat, t = m - k ∧ k ≤ m ∧ a.get 0 = .pointer (some ⟨xb, 0, none⟩) ∧ a.get 3 = .pointer (some ⟨h.n, 0, none⟩) ∧ a.get 9 = .int .i64 m ∧ a.get 10 = .int .i64 k ∧ a.marks = [] ∧ h.n + 1 ≤ h'.n ∧ Upd h h' lb ∧ h'.get h.n = .cells [.int .i64 i, .int .i64 index, .int .i64 (-1), .int .i64 m, .bool fresh] 30 false ∧ IX h' xb lb (fillM l i k ⟨.free, 0#64⟩)) ?_ (m := m) ⟨0, by omega, by omega, by simp (disch := first | assumption | omega | (simp only [push_n, set_n]; done) | (simp only [push_n, set_n]; omega) | fail) only [go_sem, ↓reduceIte, Nat.reduceEqDiff, Nat.reduceAdd, Nat.reduceMul, Int.reduceToNat, Int.reduceAdd, Int.reduceTDiv, Nat.reduceLeDiff], by simp (disch := first | assumption | omega | (simp only [push_n, set_n]; done) | (simp only [push_n, set_n]; omega) | fail) only [go_sem, ↓reduceIte, Nat.reduceEqDiff, Nat.reduceAdd, Nat.reduceMul, Int.reduceToNat, Int.reduceAdd, Int.reduceTDiv, Nat.reduceLeDiff], by simp (disch := first | assumption | omega | (simp only [push_n, set_n]; done) | (simp only [push_n, set_n]; omega) | fail) only [go_sem, ↓reduceIte, Nat.reduceEqDiff, Nat.reduceAdd, Nat.reduceMul, Int.reduceToNat, Int.reduceAdd, Int.reduceTDiv, Nat.reduceLeDiff], by simp (disch := first | assumption | omega | (simp only [push_n, set_n]; done) | (simp only [push_n, set_n]; omega) | fail) only [go_sem, ↓reduceIte, Nat.reduceEqDiff, Nat.reduceAdd, Nat.reduceMul, Int.reduceToNat, Int.reduceAdd, Int.reduceTDiv, Nat.reduceLeDiff], rfl, by (first | omega | (simp only [push_n, set_n]; done) | (simp only [push_n, set_n]; omega)), (Ext.upd (by repeat (first | assumption | exact Ext.refl _ | refine Ext.push ?_ | refine Ext.set ?_ (by omega) | refine Ext.trans ?_ (by assumption)))), by simp (disch := first | assumption | omega | (simp only [push_n, set_n]; done) | (simp only [push_n, set_n]; omega) | fail) only [go_sem, ↓reduceIte, Nat.reduceEqDiff, Nat.reduceAdd, Nat.reduceMul, Int.reduceToNat, Int.reduceAdd, Int.reduceTDiv, Nat.reduceLeDiff], hi.ext (by repeat (first | assumption | exact Ext.refl _ | refine Ext.push ?_ | refine Ext.set ?_ (by omega) | refine Ext.trans ?_ (by assumption)))⟩
    rintro t a h2 ⟨k, rfl, hk, a0, a3, a9, a10, am, n2, u2, g2, i2⟩
    by_cases hkm : k < m
    · have gs : setAt ((fillM l i k ⟨.free, 0#64⟩).map One.cells).flatten ((i + k) * 6) [.int .i64 0, .int .i64 0, .int .i64 0, .int .i64 0, ub 0#64, ub 0#64] = ((fillM l i (k + 1) ⟨.free, 0#64⟩).map One.cells).flatten := by
        rw [fillM_succ]
        exact one_set0 (o' := ⟨.free, 0#64⟩) (by rw [fillM_length]; omega)
      have ei : ((i : Int) + (k : Int)).toNat = i + k := by omega
      have gx := i2.x
      have gl := i2.l (by intro e; have := congrArg List.length e; rw [fillM_length] at this; simp at this; subst this; simp at him; omega)
      rw [fillM_length] at gx
      simp (disch := first | assumption | omega | (simp only [push_n, set_n]; done) | (simp only [push_n, set_n]; omega) | fail) only [go_sem, ↓reduceIte, Nat.reduceEqDiff, Nat.reduceAdd, Nat.reduceMul, Int.reduceToNat, Int.reduceAdd, Int.reduceTDiv, Nat.reduceLeDiff, a0, a3, a9, a10, am, gx, gl, g2, flat_length, fillM_length, ei, gs]
      refine ⟨_, Nat.sub_lt_sub_left hkm (Nat.lt_succ_self k), k + 1, rfl, by omega, rfl, by omega, u2.set (.inr rfl), i2.write (by rw [fillM_length, fillM_length])⟩
    · obtain rfl : k = m := by omega
      simp (disch := first | assumption | omega | (simp only [push_n, set_n]; done) | (simp only [push_n, set_n]; omega) | fail) only [go_sem, ↓reduceIte, Nat.reduceEqDiff, Nat.reduceAdd, Nat.reduceMul, Int.reduceToNat, Int.reduceAdd, Int.reduceTDiv, Nat.reduceLeDiff, a0, a3, a9, a10, am]
      exact q _ u2 i2
  · have hg : goneM l ⟨chunk, index, cls, many, fresh⟩ = l := by unfold goneM; rw [if_neg hc]
    rw [hg] at q
    simp (disch := first | assumption | omega | (simp only [push_n, set_n]; done) | (simp only [push_n, set_n]; omega) | fail) only [go_sem, ↓reduceIte, Nat.reduceEqDiff, Nat.reduceAdd, Nat.reduceMul, Int.reduceToNat, Int.reduceAdd, Int.reduceTDiv, Nat.reduceLeDiff, ir48, Pl.cells]
    exact q _ (Ext.upd (by repeat (first | assumption | exact Ext.refl _ | refine Ext.push ?_ | refine Ext.set ?_ (by omega) | refine Ext.trans ?_ (by assumption)))) (hi.ext (by repeat (first | assumption | exact Ext.refl _ | refine Ext.push ?_ | refine Ext.set ?_ (by omega) | refine Ext.trans ?_ (by assumption))))

/-- What is at a place that is right. -/
theorem atM_some {l : List One} {p : Pl} {i : Nat} {b : BitVec 64} (h : atM l p = some (i, b)) : ∃ o, l[i]? = some o ∧ p.chunk = i ∧ ((p.cls = -1 ∧ o.c.kind = 2 ∧ (o.c.many : Int) = p.many ∧ p.index = 0 ∧ b = 1#64) ∨ (p.cls ≠ -1 ∧ o.c.kind = 1 ∧ (o.c.cls : Int) = p.cls ∧ ∃ n : Nat, p.index = n ∧ n < manyOf o.c.cls ∧ b = bitB n)) := by
  unfold atM at h
  split at h
  · rename_i h0
    split at h
    · cases h
    · rename_i o ho
      split at h
      · rename_i hc
        split at h
        · rename_i hk
          cases h
          exact ⟨o, ho, by omega, .inl ⟨hc, hk.1, hk.2.1, hk.2.2, rfl⟩⟩
        · cases h
      · rename_i hc
        split at h
        · rename_i hk
          cases h
          exact ⟨o, ho, by omega, .inr ⟨hc, hk.1, hk.2.1, p.index.toNat, by omega, by omega, rfl⟩⟩
        · cases h
  · cases h
end Go.Am.YtdcppkhobfbpeaaDoor
