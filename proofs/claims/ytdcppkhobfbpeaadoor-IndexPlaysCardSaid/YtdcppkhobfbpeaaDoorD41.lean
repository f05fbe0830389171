/-
  The logs' chunks: the index's and the document's; which place an operation is of; two blocks that are written.
-/
import Derived.Test.YtdcppkhobfbpeaaDoorD39
set_option linter.unusedVariables false
set_option linter.unusedSimpArgs false
namespace Go.Am.YtdcppkhobfbpeaaDoor
open Go Go.Am Go.Proofs

def LogRight (lane number : Int) : Prop := 0 ≤ lane ∧ lane ≤ 63 ∧ 0 ≤ number ∧ number ≤ 7
instance (lane number : Int) : Decidable (LogRight lane number) := by unfold LogRight; infer_instance
/-- A log's chunk is taken. -/
def logM (l : List One) (lane number : Int) : Int × Nat × List One :=
  if LogRight lane number then match rowI (rowsOf (frees l)) 1 with
    | some i => (i, 0, l.set i ⟨.log lane.toNat number.toNat, 0#64⟩)
    | none => (0, 2, l)
  else (0, 1, l)
/-- A log's chunk is given back. -/
def unlogM (l : List One) (i : Int) : Option (List One) :=
  if 0 ≤ i then match l[i.toNat]? with
    | some o => if o.c.kind = 4 then some (l.set i.toNat ⟨.free, 0#64⟩) else none
    | none => none
  else none
theorem log_neat {l : List One} {lane number : Int} (hw : Neat l) : Neat (logM l lane number).2.2 ∧ (logM l lane number).2.2.length = l.length := by
  unfold logM
  split
  · rename_i h
    obtain ⟨h1, h2, h3, h4⟩ := h
    cases hr : rowI (rowsOf (frees l)) 1 with
    | none => exact ⟨hw, rfl⟩
    | some i =>
      obtain ⟨o, ho, hof⟩ := free_at (rowI_true hr i (Nat.le_refl _) (by omega))
      have sw := sw_set (o' := ⟨.log lane.toNat number.toNat, 0#64⟩) hw.wf ho (free_lone hof).1 ⟨by simp [Ck.kind], by simp [Ck.kind]⟩
      refine ⟨sw.neat hw fun o ho => ?_, sw.length⟩
      rw [List.mem_singleton] at ho
      subst ho
      exact ⟨by omega, by omega, rfl⟩
  · exact ⟨hw, rfl⟩
theorem unlog_neat {l l' : List One} {i : Int} (hw : Neat l) (h : unlogM l i = some l') : Neat l' ∧ l'.length = l.length := by
  unfold unlogM at h
  split at h
  · cases ho : l[i.toNat]? with
    | none => rw [ho] at h; cases h
    | some o =>
      rw [ho] at h
      simp only at h
      split at h
      · rename_i hk
        injection h with h
        subst h
        have sw := sw_set (o' := ⟨.free, 0#64⟩) hw.wf ho ⟨by omega, by omega⟩ ⟨by simp [Ck.kind], by simp [Ck.kind]⟩
        refine ⟨sw.neat hw fun o ho => ?_, sw.length⟩
        rw [List.mem_singleton] at ho
        subst ho
        exact rfl
      · cases h
  · cases h

theorem f76_not {h : Heap} {Q : Value → Heap → Prop} {lane number : Int} (hn : ¬ LogRight lane number) (q : ∀ h', Ext h h' → Q (.bool false) h') :
    WC T (.func (.func 76) #[] #[]) [.agg #[.int .i64 4, .int .i64 0, .int .i64 lane, .int .i64 number, ub 0#64]] h Q := by
  refine WC_fn T76 rfl ?_
  unfold LogRight at hn
  by_cases h1 : 0 ≤ lane
  · by_cases h2 : lane ≤ 63
    · by_cases h3 : 0 ≤ number
      · simp (disch := first | assumption | omega | (simp only [push_n, set_n]; done) | (simp only [push_n, set_n]; omega) | fail) only [go_sem, ↓reduceIte, Nat.reduceEqDiff, Nat.reduceAdd, Nat.reduceMul, Int.reduceToNat, Int.reduceAdd, Int.reduceTDiv, Nat.reduceLeDiff, ir76]
        exact q _ (by repeat (first | assumption | exact Ext.refl _ | refine Ext.push ?_ | refine Ext.set ?_ (by omega) | refine Ext.trans ?_ (by assumption)))
      · simp (disch := first | assumption | omega | (simp only [push_n, set_n]; done) | (simp only [push_n, set_n]; omega) | fail) only [go_sem, ↓reduceIte, Nat.reduceEqDiff, Nat.reduceAdd, Nat.reduceMul, Int.reduceToNat, Int.reduceAdd, Int.reduceTDiv, Nat.reduceLeDiff, ir76]
        exact q _ (by repeat (first | assumption | exact Ext.refl _ | refine Ext.push ?_ | refine Ext.set ?_ (by omega) | refine Ext.trans ?_ (by assumption)))
    · simp (disch := first | assumption | omega | (simp only [push_n, set_n]; done) | (simp only [push_n, set_n]; omega) | fail) only [go_sem, ↓reduceIte, Nat.reduceEqDiff, Nat.reduceAdd, Nat.reduceMul, Int.reduceToNat, Int.reduceAdd, Int.reduceTDiv, Nat.reduceLeDiff, ir76]
      exact q _ (by repeat (first | assumption | exact Ext.refl _ | refine Ext.push ?_ | refine Ext.set ?_ (by omega) | refine Ext.trans ?_ (by assumption)))
  · simp (disch := first | assumption | omega | (simp only [push_n, set_n]; done) | (simp only [push_n, set_n]; omega) | fail) only [go_sem, ↓reduceIte, Nat.reduceEqDiff, Nat.reduceAdd, Nat.reduceMul, Int.reduceToNat, Int.reduceAdd, Int.reduceTDiv, Nat.reduceLeDiff, ir76]
    exact q _ (by repeat (first | assumption | exact Ext.refl _ | refine Ext.push ?_ | refine Ext.set ?_ (by omega) | refine Ext.trans ?_ (by assumption)))
theorem f57_not {h : Heap} {Q : Value → Heap → Prop} {lane number : Int} (hn : ¬ LogRight lane number) (q : ∀ h', Ext h h' → Q (.bool false) h') :
    WC T (.func (.func 57) #[] #[]) [.agg #[.int .i64 4, .int .i64 0, .int .i64 lane, .int .i64 number, ub 0#64]] h Q := by
  refine WC_fn T57 rfl ?_
  simp (disch := first | assumption | omega | (simp only [push_n, set_n]; done) | (simp only [push_n, set_n]; omega) | fail) only [go_sem, ↓reduceIte, Nat.reduceEqDiff, Nat.reduceAdd, Nat.reduceMul, Int.reduceToNat, Int.reduceAdd, Int.reduceTDiv, Nat.reduceLeDiff, ir57]
  refine f76_not hn fun h1 x1 => ?_
  have n_x1 := Ext.n_le x1; try simp only [push_n, set_n] at n_x1
  simp (disch := first | assumption | omega | (simp only [push_n, set_n]; done) | (simp only [push_n, set_n]; omega) | fail) only [go_sem, ↓reduceIte, Nat.reduceEqDiff, Nat.reduceAdd, Nat.reduceMul, Int.reduceToNat, Int.reduceAdd, Int.reduceTDiv, Nat.reduceLeDiff, x1.2]
  exact q _ (by repeat (first | assumption | exact Ext.refl _ | refine Ext.push ?_ | refine Ext.set ?_ (by omega) | refine Ext.trans ?_ (by assumption)))

theorem log_cells {a b : Nat} : One.cells ⟨.log a b, 0#64⟩ = [.int .i64 4, .int .i64 0, .int .i64 a, .int .i64 b, ub 0#64, ub 0#64] := rfl
theorem f28_spec {h : Heap} {Q : Value → Heap → Prop} {xb lb : Nat} {l : List One} {lane number : Int} (hb : blocks h) (hi : IX h xb lb l) (hn : l.length ≤ 1000)
    (q : ∀ h', Upd h h' lb → IX h' xb lb (logM l lane number).2.2 → Q (.tuple #[.int .i64 (logM l lane number).1, .int .i64 (logM l lane number).2.1]) h') :
    WC T (.func (.func 28) #[] #[]) [.pointer (some ⟨xb, 0, none⟩), .int .i64 lane, .int .i64 number] h Q := by
  refine WC_fn T28 rfl ?_
  have xn := hi.xn
  have ln := hi.ln
  have lx := hi.ne
  have ix := hi.x
  by_cases hr : LogRight lane number
  · have hr' := hr
    obtain ⟨h1, h2, h3, h4⟩ := hr'
    obtain ⟨a, rfl⟩ : ∃ a : Nat, lane = a := ⟨lane.toNat, by omega⟩
    obtain ⟨b, rfl⟩ : ∃ b : Nat, number = b := ⟨number.toNat, by omega⟩
    simp (disch := first | assumption | omega | (simp only [push_n, set_n]; done) | (simp only [push_n, set_n]; omega) | fail) only [go_sem, ↓reduceIte, Nat.reduceEqDiff, Nat.reduceAdd, Nat.reduceMul, Int.reduceToNat, Int.reduceAdd, Int.reduceTDiv, Nat.reduceLeDiff, ir28]
    refine f57_spec (c := .log a b) (hb.ext (by repeat (first | assumption | exact Ext.refl _ | refine Ext.push ?_ | refine Ext.set ?_ (by omega) | refine Ext.trans ?_ (by assumption)))) ⟨by omega, by omega⟩ fun h1 x1 => ?_
    have n_x1 := Ext.n_le x1; try simp only [push_n, set_n] at n_x1
    simp (disch := first | assumption | omega | (simp only [push_n, set_n]; done) | (simp only [push_n, set_n]; omega) | fail) only [go_sem, ↓reduceIte, Nat.reduceEqDiff, Nat.reduceAdd, Nat.reduceMul, Int.reduceToNat, Int.reduceAdd, Int.reduceTDiv, Nat.reduceLeDiff, x1.2]
    refine f58_spec (many := 1) (l := l) (xb := xb) (lb := lb) (hi.ext (by repeat (first | assumption | exact Ext.refl _ | refine Ext.push ?_ | refine Ext.set ?_ (by omega) | refine Ext.trans ?_ (by assumption)))) hn (by decide) ?_ ?_
    · intro i h2 x2 hrow
      have n_x2 := Ext.n_le x2; try simp only [push_n, set_n] at n_x2
      have hil := rowI_lt hrow
      rw [show (frees l).length = l.length by simp [frees]] at hil
      have hne : l ≠ [] := by intro e; subst e; simp at hil
      have il := hi.l hne
      have hs : logM l a b = ((i : Int), 0, l.set i ⟨.log a b, 0#64⟩) := by unfold logM; rw [if_pos hr]; simp only [hrow, Int.toNat_natCast]
      rw [hs] at q
      have gs : setAt (l.map One.cells).flatten (i * 6) [.int .i64 4, .int .i64 0, .int .i64 a, .int .i64 b, ub 0#64, ub 0#64] = ((l.set i ⟨.log a b, 0#64⟩).map One.cells).flatten := one_set0 (o' := ⟨.log a b, 0#64⟩) (by omega)
      simp (disch := first | assumption | omega | (simp only [push_n, set_n]; done) | (simp only [push_n, set_n]; omega) | fail) only [go_sem, ↓reduceIte, Nat.reduceEqDiff, Nat.reduceAdd, Nat.reduceMul, Int.reduceToNat, Int.reduceAdd, Int.reduceTDiv, Nat.reduceLeDiff, x1.2, x2.2, ix, il, flat_length, gs]
      refine q _ ⟨by (first | omega | (simp only [push_n, set_n]; done) | (simp only [push_n, set_n]; omega)), fun j hj hjl => ?_⟩ ⟨by (first | omega | (simp only [push_n, set_n]; done) | (simp only [push_n, set_n]; omega)), by (first | omega | (simp only [push_n, set_n]; done) | (simp only [push_n, set_n]; omega)), lx, ?_, fun _ => ?_⟩
      · simp (disch := first | assumption | omega | (simp only [push_n, set_n]; done) | (simp only [push_n, set_n]; omega) | fail) only [go_sem, ↓reduceIte, Nat.reduceEqDiff, Nat.reduceAdd, Nat.reduceMul, Int.reduceToNat, Int.reduceAdd, Int.reduceTDiv, Nat.reduceLeDiff, x1.2, x2.2]
      · simp (disch := first | assumption | omega | (simp only [push_n, set_n]; done) | (simp only [push_n, set_n]; omega) | fail) only [go_sem, ↓reduceIte, Nat.reduceEqDiff, Nat.reduceAdd, Nat.reduceMul, Int.reduceToNat, Int.reduceAdd, Int.reduceTDiv, Nat.reduceLeDiff, x1.2, x2.2, ix, List.length_set]
      · simp (disch := first | assumption | omega | (simp only [push_n, set_n]; done) | (simp only [push_n, set_n]; omega) | fail) only [go_sem, ↓reduceIte, Nat.reduceEqDiff, Nat.reduceAdd, Nat.reduceMul, Int.reduceToNat, Int.reduceAdd, Int.reduceTDiv, Nat.reduceLeDiff]
    · intro h2 x2 hrow
      have n_x2 := Ext.n_le x2; try simp only [push_n, set_n] at n_x2
      have hs : logM l a b = (0, 2, l) := by unfold logM; rw [if_pos hr]; simp only [hrow]
      rw [hs] at q
      simp (disch := first | assumption | omega | (simp only [push_n, set_n]; done) | (simp only [push_n, set_n]; omega) | fail) only [go_sem, ↓reduceIte, Nat.reduceEqDiff, Nat.reduceAdd, Nat.reduceMul, Int.reduceToNat, Int.reduceAdd, Int.reduceTDiv, Nat.reduceLeDiff, x1.2, x2.2]
      exact q _ (Ext.upd (by repeat (first | assumption | exact Ext.refl _ | refine Ext.push ?_ | refine Ext.set ?_ (by omega) | refine Ext.trans ?_ (by assumption)))) (hi.ext (by repeat (first | assumption | exact Ext.refl _ | refine Ext.push ?_ | refine Ext.set ?_ (by omega) | refine Ext.trans ?_ (by assumption))))
  · have hs : logM l lane number = (0, 1, l) := by unfold logM; rw [if_neg hr]
    rw [hs] at q
    simp (disch := first | assumption | omega | (simp only [push_n, set_n]; done) | (simp only [push_n, set_n]; omega) | fail) only [go_sem, ↓reduceIte, Nat.reduceEqDiff, Nat.reduceAdd, Nat.reduceMul, Int.reduceToNat, Int.reduceAdd, Int.reduceTDiv, Nat.reduceLeDiff, ir28]
    refine f57_not hr fun h1 x1 => ?_
    have n_x1 := Ext.n_le x1; try simp only [push_n, set_n] at n_x1
    simp (disch := first | assumption | omega | (simp only [push_n, set_n]; done) | (simp only [push_n, set_n]; omega) | fail) only [go_sem, ↓reduceIte, Nat.reduceEqDiff, Nat.reduceAdd, Nat.reduceMul, Int.reduceToNat, Int.reduceAdd, Int.reduceTDiv, Nat.reduceLeDiff, x1.2]
    exact q _ (Ext.upd (by repeat (first | assumption | exact Ext.refl _ | refine Ext.push ?_ | refine Ext.set ?_ (by omega) | refine Ext.trans ?_ (by assumption)))) (hi.ext (by repeat (first | assumption | exact Ext.refl _ | refine Ext.push ?_ | refine Ext.set ?_ (by omega) | refine Ext.trans ?_ (by assumption))))

theorem log_ref {a b : Nat} : One.ref ⟨.log a b, 0#64⟩ = [.int .i64 4, .int .i64 0, .int .i64 a, .int .i64 b, ub 0#64, .int .i64 0, .int .i64 0, .int .i64 0, .int .i64 0, .int .i64 0, .int .i64 0, .int .i64 0, .int .i64 0, .bool false] := rfl
theorem f29_spec {h : Heap} {Q : Value → Heap → Prop} {yb lb : Nat} {l : List One} {lane number : Int} (hi : YX h yb lb l) (hw : Neat l) (hn : l.length ≤ 1000)
    (q : ∀ h', Upd h h' lb → YX h' yb lb (logM l lane number).2.2 → Q (.tuple #[.int .i64 (logM l lane number).1, .int .i64 (logM l lane number).2.1]) h') :
    WC T (.func (.func 29) #[] #[]) [.pointer (some ⟨yb, 0, none⟩), .int .i64 lane, .int .i64 number] h Q := by
  refine WC_fn T29 rfl ?_
  have yn := hi.yn
  have ln := hi.ln
  have ly := hi.ne
  have iy := hi.y
  by_cases hr : LogRight lane number
  · have hr' := hr
    obtain ⟨h1, h2, h3, h4⟩ := hr'
    obtain ⟨a, rfl⟩ : ∃ a : Nat, lane = a := ⟨lane.toNat, by omega⟩
    obtain ⟨b, rfl⟩ : ∃ b : Nat, number = b := ⟨number.toNat, by omega⟩
    simp (disch := first | assumption | omega | (simp only [push_n, set_n]; done) | (simp only [push_n, set_n]; omega) | fail) only [go_sem, ↓reduceIte, Nat.reduceEqDiff, Nat.reduceAdd, Nat.reduceMul, Int.reduceToNat, Int.reduceAdd, Int.reduceTDiv, Nat.reduceLeDiff, ir29]
    refine f55_spec (many := 1) (l := l) (yb := yb) (lb := lb) hi hw.tidy hn (by decide) (by decide) fun h2 x2 => ?_
    have n_x2 := Ext.n_le x2; try simp only [push_n, set_n] at n_x2
    cases hrow : rowI (rowsOf (frees l)) 1 with
    | some i =>
      have hz : rowZ l 1 = i := by unfold rowZ; rw [hrow]
      rw [hz]
      have hil := rowI_lt hrow
      rw [show (frees l).length = l.length by simp [frees]] at hil
      have hne : l ≠ [] := by intro e; subst e; simp at hil
      have il := hi.l hne
      have hs : logM l a b = ((i : Int), 0, l.set i ⟨.log a b, 0#64⟩) := by unfold logM; rw [if_pos hr]; simp only [hrow, Int.toNat_natCast]
      rw [hs] at q
      have gs : setAt (l.map One.ref).flatten (i * 14) [.int .i64 4, .int .i64 0, .int .i64 a, .int .i64 b, ub 0#64, .int .i64 0, .int .i64 0, .int .i64 0, .int .i64 0, .int .i64 0, .int .i64 0, .int .i64 0, .int .i64 0, .bool false] = ((l.set i ⟨.log a b, 0#64⟩).map One.ref).flatten := ref_set0 (o' := ⟨.log a b, 0#64⟩) (by omega)
      simp (disch := first | assumption | omega | (simp only [push_n, set_n]; done) | (simp only [push_n, set_n]; omega) | fail) only [go_sem, ↓reduceIte, Nat.reduceEqDiff, Nat.reduceAdd, Nat.reduceMul, Int.reduceToNat, Int.reduceAdd, Int.reduceTDiv, Nat.reduceLeDiff, x2.2, iy, il, ref_len, gs]
      refine q _ ⟨by (first | omega | (simp only [push_n, set_n]; done) | (simp only [push_n, set_n]; omega)), fun j hj hjl => ?_⟩ ⟨by (first | omega | (simp only [push_n, set_n]; done) | (simp only [push_n, set_n]; omega)), by (first | omega | (simp only [push_n, set_n]; done) | (simp only [push_n, set_n]; omega)), ly, ?_, fun _ => ?_⟩
      · simp (disch := first | assumption | omega | (simp only [push_n, set_n]; done) | (simp only [push_n, set_n]; omega) | fail) only [go_sem, ↓reduceIte, Nat.reduceEqDiff, Nat.reduceAdd, Nat.reduceMul, Int.reduceToNat, Int.reduceAdd, Int.reduceTDiv, Nat.reduceLeDiff, x2.2]
      · simp (disch := first | assumption | omega | (simp only [push_n, set_n]; done) | (simp only [push_n, set_n]; omega) | fail) only [go_sem, ↓reduceIte, Nat.reduceEqDiff, Nat.reduceAdd, Nat.reduceMul, Int.reduceToNat, Int.reduceAdd, Int.reduceTDiv, Nat.reduceLeDiff, x2.2, iy, List.length_set]
      · simp (disch := first | assumption | omega | (simp only [push_n, set_n]; done) | (simp only [push_n, set_n]; omega) | fail) only [go_sem, ↓reduceIte, Nat.reduceEqDiff, Nat.reduceAdd, Nat.reduceMul, Int.reduceToNat, Int.reduceAdd, Int.reduceTDiv, Nat.reduceLeDiff]
    | none =>
      have hz : rowZ l 1 = -1 := by unfold rowZ; rw [hrow]
      rw [hz]
      have hs : logM l a b = (0, 2, l) := by unfold logM; rw [if_pos hr]; simp only [hrow]
      rw [hs] at q
      simp (disch := first | assumption | omega | (simp only [push_n, set_n]; done) | (simp only [push_n, set_n]; omega) | fail) only [go_sem, ↓reduceIte, Nat.reduceEqDiff, Nat.reduceAdd, Nat.reduceMul, Int.reduceToNat, Int.reduceAdd, Int.reduceTDiv, Nat.reduceLeDiff, x2.2]
      exact q _ (Ext.upd (by repeat (first | assumption | exact Ext.refl _ | refine Ext.push ?_ | refine Ext.set ?_ (by omega) | refine Ext.trans ?_ (by assumption)))) (hi.ext (by repeat (first | assumption | exact Ext.refl _ | refine Ext.push ?_ | refine Ext.set ?_ (by omega) | refine Ext.trans ?_ (by assumption))))
  · have hs : logM l lane number = (0, 1, l) := by unfold logM; rw [if_neg hr]
    rw [hs] at q
    unfold LogRight at hr
    by_cases h1 : 0 ≤ lane
    · by_cases h2 : lane ≤ 63
      · by_cases h3 : 0 ≤ number
        · skip
          simp (disch := first | assumption | omega | (simp only [push_n, set_n]; done) | (simp only [push_n, set_n]; omega) | fail) only [go_sem, ↓reduceIte, Nat.reduceEqDiff, Nat.reduceAdd, Nat.reduceMul, Int.reduceToNat, Int.reduceAdd, Int.reduceTDiv, Nat.reduceLeDiff, ir29]
          exact q _ (Ext.upd (Ext.refl _)) hi
        · skip
          simp (disch := first | assumption | omega | (simp only [push_n, set_n]; done) | (simp only [push_n, set_n]; omega) | fail) only [go_sem, ↓reduceIte, Nat.reduceEqDiff, Nat.reduceAdd, Nat.reduceMul, Int.reduceToNat, Int.reduceAdd, Int.reduceTDiv, Nat.reduceLeDiff, ir29]
          exact q _ (Ext.upd (Ext.refl _)) hi
      · skip
        simp (disch := first | assumption | omega | (simp only [push_n, set_n]; done) | (simp only [push_n, set_n]; omega) | fail) only [go_sem, ↓reduceIte, Nat.reduceEqDiff, Nat.reduceAdd, Nat.reduceMul, Int.reduceToNat, Int.reduceAdd, Int.reduceTDiv, Nat.reduceLeDiff, ir29]
        exact q _ (Ext.upd (Ext.refl _)) hi
    · skip
      simp (disch := first | assumption | omega | (simp only [push_n, set_n]; done) | (simp only [push_n, set_n]; omega) | fail) only [go_sem, ↓reduceIte, Nat.reduceEqDiff, Nat.reduceAdd, Nat.reduceMul, Int.reduceToNat, Int.reduceAdd, Int.reduceTDiv, Nat.reduceLeDiff, ir29]
      exact q _ (Ext.upd (Ext.refl _)) hi

theorem f30_spec {h : Heap} {Q : Value → Heap → Prop} {xb lb : Nat} {l : List One} {z : Int} (hi : IX h xb lb l) (hn : l.length ≤ 1000)
    (q : ∀ h', Upd h h' lb → IX h' xb lb (okM l (unlogM l z)).2 → Q (.bool (okM l (unlogM l z)).1) h') : WC T (.func (.func 30) #[] #[]) [.pointer (some ⟨xb, 0, none⟩), .int .i64 z] h Q := by
  refine WC_fn T30 rfl ?_
  have xn := hi.xn
  have ln := hi.ln
  have lx := hi.ne
  have ix := hi.x
  by_cases h0 : 0 ≤ z
  · obtain ⟨i, rfl⟩ : ∃ i : Nat, z = i := ⟨z.toNat, by omega⟩
    by_cases hil : i < l.length
    · obtain ⟨o, ho⟩ : ∃ o, l[i]? = some o := ⟨_, List.getElem?_eq_getElem hil⟩
      have hne : l ≠ [] := by intro e; subst e; simp at hil
      have il := hi.l hne
      have p0 := one_part ho 0 1 (by omega)
      rw [Nat.add_zero] at p0
      by_cases hk : o.c.kind = 4
      · have hs : unlogM l i = some (l.set i ⟨.free, 0#64⟩) := by unfold unlogM; simp [ho, hk]
        rw [hs] at q
        have gs : setAt (l.map One.cells).flatten (i * 6) [.int .i64 0, .int .i64 0, .int .i64 0, .int .i64 0, ub 0#64, ub 0#64] = ((l.set i ⟨.free, 0#64⟩).map One.cells).flatten := one_set0 (o' := ⟨.free, 0#64⟩) (by omega)
        simp (disch := first | assumption | omega | (simp only [push_n, set_n]; done) | (simp only [push_n, set_n]; omega) | fail) only [go_sem, ↓reduceIte, Nat.reduceEqDiff, Nat.reduceAdd, Nat.reduceMul, Int.reduceToNat, Int.reduceAdd, Int.reduceTDiv, Nat.reduceLeDiff, ir30, ix, il, p0, One.cells, flat_length, gs]
        refine q _ ⟨by (first | omega | (simp only [push_n, set_n]; done) | (simp only [push_n, set_n]; omega)), fun j hj hjl => ?_⟩ ⟨by (first | omega | (simp only [push_n, set_n]; done) | (simp only [push_n, set_n]; omega)), by (first | omega | (simp only [push_n, set_n]; done) | (simp only [push_n, set_n]; omega)), lx, ?_, fun _ => ?_⟩
        · simp (disch := first | assumption | omega | (simp only [push_n, set_n]; done) | (simp only [push_n, set_n]; omega) | fail) only [go_sem, ↓reduceIte, Nat.reduceEqDiff, Nat.reduceAdd, Nat.reduceMul, Int.reduceToNat, Int.reduceAdd, Int.reduceTDiv, Nat.reduceLeDiff]
        · simp (disch := first | assumption | omega | (simp only [push_n, set_n]; done) | (simp only [push_n, set_n]; omega) | fail) only [go_sem, ↓reduceIte, Nat.reduceEqDiff, Nat.reduceAdd, Nat.reduceMul, Int.reduceToNat, Int.reduceAdd, Int.reduceTDiv, Nat.reduceLeDiff, ix, okM, List.length_set]
        · simp (disch := first | assumption | omega | (simp only [push_n, set_n]; done) | (simp only [push_n, set_n]; omega) | fail) only [go_sem, ↓reduceIte, Nat.reduceEqDiff, Nat.reduceAdd, Nat.reduceMul, Int.reduceToNat, Int.reduceAdd, Int.reduceTDiv, Nat.reduceLeDiff, okM]
      · have hs : unlogM l i = none := by unfold unlogM; simp [ho, hk]
        rw [hs] at q
        simp (disch := first | assumption | omega | (simp only [push_n, set_n]; done) | (simp only [push_n, set_n]; omega) | fail) only [go_sem, ↓reduceIte, Nat.reduceEqDiff, Nat.reduceAdd, Nat.reduceMul, Int.reduceToNat, Int.reduceAdd, Int.reduceTDiv, Nat.reduceLeDiff, ir30, ix, il, p0, One.cells]
        exact q _ (Ext.upd (Ext.refl _)) hi
    · have hs : unlogM l i = none := by unfold unlogM; simp [List.getElem?_eq_none (show l.length ≤ i by omega)]
      rw [hs] at q
      simp (disch := first | assumption | omega | (simp only [push_n, set_n]; done) | (simp only [push_n, set_n]; omega) | fail) only [go_sem, ↓reduceIte, Nat.reduceEqDiff, Nat.reduceAdd, Nat.reduceMul, Int.reduceToNat, Int.reduceAdd, Int.reduceTDiv, Nat.reduceLeDiff, ir30, ix]
      exact q _ (Ext.upd (Ext.refl _)) hi
  · have hs : unlogM l z = none := by unfold unlogM; rw [if_neg h0]
    rw [hs] at q
    simp (disch := first | assumption | omega | (simp only [push_n, set_n]; done) | (simp only [push_n, set_n]; omega) | fail) only [go_sem, ↓reduceIte, Nat.reduceEqDiff, Nat.reduceAdd, Nat.reduceMul, Int.reduceToNat, Int.reduceAdd, Int.reduceTDiv, Nat.reduceLeDiff, ir30, ix]
    exact q _ (Ext.upd (Ext.refl _)) hi

theorem f31_spec {h : Heap} {Q : Value → Heap → Prop} {yb lb : Nat} {l : List One} {z : Int} (hi : YX h yb lb l) (hn : l.length ≤ 1000)
    (q : ∀ h', Upd h h' lb → YX h' yb lb (okM l (unlogM l z)).2 → Q (.bool (okM l (unlogM l z)).1) h') : WC T (.func (.func 31) #[] #[]) [.pointer (some ⟨yb, 0, none⟩), .int .i64 z] h Q := by
  refine WC_fn T31 rfl ?_
  have yn := hi.yn
  have ln := hi.ln
  have ly := hi.ne
  have iy := hi.y
  by_cases h0 : 0 ≤ z
  · obtain ⟨i, rfl⟩ : ∃ i : Nat, z = i := ⟨z.toNat, by omega⟩
    by_cases hil : i < l.length
    · obtain ⟨o, ho⟩ : ∃ o, l[i]? = some o := ⟨_, List.getElem?_eq_getElem hil⟩
      have hne : l ≠ [] := by intro e; subst e; simp at hil
      have il := hi.l hne
      have p0 := ref_part ho 0 1 (by omega)
      rw [Nat.add_zero, show getAt o.ref 0 1 = some [.int .i64 o.c.kind] from rfl] at p0
      by_cases hk : o.c.kind = 4
      · have hs : unlogM l i = some (l.set i ⟨.free, 0#64⟩) := by unfold unlogM; simp [ho, hk]
        rw [hs] at q
        have gs : setAt (l.map One.ref).flatten (i * 14) [.int .i64 0, .int .i64 0, .int .i64 0, .int .i64 0, ub 0#64, .int .i64 0, .int .i64 0, .int .i64 0, .int .i64 0, .int .i64 0, .int .i64 0, .int .i64 0, .int .i64 0, .bool false] = ((l.set i ⟨.free, 0#64⟩).map One.ref).flatten := ref_set0 (o' := ⟨.free, 0#64⟩) (by omega)
        simp (disch := first | assumption | omega | (simp only [push_n, set_n]; done) | (simp only [push_n, set_n]; omega) | fail) only [go_sem, ↓reduceIte, Nat.reduceEqDiff, Nat.reduceAdd, Nat.reduceMul, Int.reduceToNat, Int.reduceAdd, Int.reduceTDiv, Nat.reduceLeDiff, ir31, iy, il, p0, ref_len, gs]
        refine q _ ⟨by (first | omega | (simp only [push_n, set_n]; done) | (simp only [push_n, set_n]; omega)), fun j hj hjl => ?_⟩ ⟨by (first | omega | (simp only [push_n, set_n]; done) | (simp only [push_n, set_n]; omega)), by (first | omega | (simp only [push_n, set_n]; done) | (simp only [push_n, set_n]; omega)), ly, ?_, fun _ => ?_⟩
        · simp (disch := first | assumption | omega | (simp only [push_n, set_n]; done) | (simp only [push_n, set_n]; omega) | fail) only [go_sem, ↓reduceIte, Nat.reduceEqDiff, Nat.reduceAdd, Nat.reduceMul, Int.reduceToNat, Int.reduceAdd, Int.reduceTDiv, Nat.reduceLeDiff]
        · simp (disch := first | assumption | omega | (simp only [push_n, set_n]; done) | (simp only [push_n, set_n]; omega) | fail) only [go_sem, ↓reduceIte, Nat.reduceEqDiff, Nat.reduceAdd, Nat.reduceMul, Int.reduceToNat, Int.reduceAdd, Int.reduceTDiv, Nat.reduceLeDiff, iy, okM, List.length_set]
        · simp (disch := first | assumption | omega | (simp only [push_n, set_n]; done) | (simp only [push_n, set_n]; omega) | fail) only [go_sem, ↓reduceIte, Nat.reduceEqDiff, Nat.reduceAdd, Nat.reduceMul, Int.reduceToNat, Int.reduceAdd, Int.reduceTDiv, Nat.reduceLeDiff, okM]
      · have hs : unlogM l i = none := by unfold unlogM; simp [ho, hk]
        rw [hs] at q
        simp (disch := first | assumption | omega | (simp only [push_n, set_n]; done) | (simp only [push_n, set_n]; omega) | fail) only [go_sem, ↓reduceIte, Nat.reduceEqDiff, Nat.reduceAdd, Nat.reduceMul, Int.reduceToNat, Int.reduceAdd, Int.reduceTDiv, Nat.reduceLeDiff, ir31, iy, il, p0]
        exact q _ (Ext.upd (Ext.refl _)) hi
    · have hs : unlogM l i = none := by unfold unlogM; simp [List.getElem?_eq_none (show l.length ≤ i by omega)]
      rw [hs] at q
      simp (disch := first | assumption | omega | (simp only [push_n, set_n]; done) | (simp only [push_n, set_n]; omega) | fail) only [go_sem, ↓reduceIte, Nat.reduceEqDiff, Nat.reduceAdd, Nat.reduceMul, Int.reduceToNat, Int.reduceAdd, Int.reduceTDiv, Nat.reduceLeDiff, ir31, iy]
      exact q _ (Ext.upd (Ext.refl _)) hi
  · have hs : unlogM l z = none := by unfold unlogM; rw [if_neg h0]
    rw [hs] at q
    simp (disch := first | assumption | omega | (simp only [push_n, set_n]; done) | (simp only [push_n, set_n]; omega) | fail) only [go_sem, ↓reduceIte, Nat.reduceEqDiff, Nat.reduceAdd, Nat.reduceMul, Int.reduceToNat, Int.reduceAdd, Int.reduceTDiv, Nat.reduceLeDiff, ir31, iy]
    exact q _ (Ext.upd (Ext.refl _)) hi

structure Op where
  kind : Nat
  size : Int
  lane : Int
  which : Nat
  raw : Bool
  place : Pl
def Op.cells (o : Op) : List Value := [.int .u8 o.kind, .int .i64 o.size, .int .i64 o.lane, .int .u8 o.which, .bool o.raw, .int .i64 o.place.chunk, .int .i64 o.place.index, .int .i64 o.place.cls, .int .i64 o.place.many, .bool o.place.fresh]
abbrev Op.val (o : Op) : Value := .agg o.cells.toArray

theorem f22_spec {h : Heap} {Q : Value → Heap → Prop} {v : Value} {P : List Pl} {o : Op} (hr : RS h 5 v (P.map Pl.cells)) (hn : P.length ≤ 1000) (hw : o.which < 256)
    (q : ∀ p h', Ext h h' → Q (Pl.val p) h') : WC T (.func (.func 22) #[] #[]) [v, o.val] h Q := by
  refine WC_fn T22 rfl ?_
  obtain ⟨kind, size, lane, which, raw, ⟨chunk, index, cls, many, fresh⟩⟩ := o
  simp only at hw
  obtain ⟨al, ac, hv⟩ := hr.lenV
  cases raw with
  | true =>
    subst hv
    simp (disch := first | assumption | omega | (simp only [push_n, set_n]; done) | (simp only [push_n, set_n]; omega) | fail) only [go_sem, ↓reduceIte, Nat.reduceEqDiff, Nat.reduceAdd, Nat.reduceMul, Int.reduceToNat, Int.reduceAdd, Int.reduceTDiv, Nat.reduceLeDiff, ir22, Op.cells]
    exact q ⟨chunk, index, cls, many, fresh⟩ _ (by repeat (first | assumption | exact Ext.refl _ | refine Ext.push ?_ | refine Ext.set ?_ (by omega) | refine Ext.trans ?_ (by assumption)))
  | false =>
    by_cases h0 : P.length = 0
    · rw [h0] at hv
      subst hv
      simp (disch := first | assumption | omega | (simp only [push_n, set_n]; done) | (simp only [push_n, set_n]; omega) | fail) only [go_sem, ↓reduceIte, Nat.reduceEqDiff, Nat.reduceAdd, Nat.reduceMul, Int.reduceToNat, Int.reduceAdd, Int.reduceTDiv, Nat.reduceLeDiff, ir22, Op.cells]
      exact q ⟨chunk, index, cls, many, fresh⟩ _ (by repeat (first | assumption | exact Ext.refl _ | refine Ext.push ?_ | refine Ext.set ?_ (by omega) | refine Ext.trans ?_ (by assumption)))
    · have hlt : which % P.length < P.length := Nat.mod_lt _ (by omega)
      obtain ⟨b, c0, e, ro, hv2, hg, hbn⟩ := hr.atM hlt
      obtain ⟨p, hp⟩ : ∃ p, P[which % P.length]? = some p := ⟨_, List.getElem?_eq_getElem hlt⟩
      have hl := getAt_map (f := Pl.cells) (s := 5) (fun _ => rfl) hp
      have e9 : (which : Int).tmod (P.length : Int) = ((which % P.length : Nat) : Int) := by rw [Int.tmod_eq_emod_of_nonneg (by omega)]; simp
      generalize which % P.length = ix at *
      subst hv2
      obtain ⟨pc, pi, pk, pm, pf⟩ := p
      simp (disch := first | assumption | omega | (simp only [push_n, set_n]; done) | (simp only [push_n, set_n]; omega) | fail) only [go_sem, ↓reduceIte, Nat.reduceEqDiff, Nat.reduceAdd, Nat.reduceMul, Int.reduceToNat, Int.reduceAdd, Int.reduceTDiv, Nat.reduceLeDiff, ir22, Op.cells, e9, hg, hl, Pl.cells]
      exact q ⟨pc, pi, pk, pm, pf⟩ _ (by repeat (first | assumption | exact Ext.refl _ | refine Ext.push ?_ | refine Ext.set ?_ (by omega) | refine Ext.trans ?_ (by assumption)))

/-- All is as it was but for two blocks. -/
def Upd2 (h h' : Heap) (x y : Nat) : Prop := h.n ≤ h'.n ∧ ∀ i, i < h.n → i ≠ x → i ≠ y → h'.get i = h.get i
theorem Ext.upd2 {h h' : Heap} {x y : Nat} (e : Ext h h') : Upd2 h h' x y := ⟨e.1, fun i hi _ _ => e.2 i hi⟩
theorem Upd.upd2x {h h' : Heap} {x y : Nat} (u : Upd h h' x) : Upd2 h h' x y := ⟨u.1, fun i hi hx _ => u.2 i hi hx⟩
theorem Upd.upd2y {h h' : Heap} {x y : Nat} (u : Upd h h' y) : Upd2 h h' x y := ⟨u.1, fun i hi _ hy => u.2 i hi hy⟩
theorem Upd2.trans {h1 h2 h3 : Heap} {x y : Nat} (a : Upd2 h1 h2 x y) (b : Upd2 h2 h3 x y) : Upd2 h1 h3 x y := ⟨Nat.le_trans a.1 b.1, fun i hi hx hy => (b.2 i (Nat.lt_of_lt_of_le hi a.1) hx hy).trans (a.2 i hi hx hy)⟩
theorem blocks.upd2 {h h' : Heap} {x y : Nat} (hb : blocks h) (u : Upd2 h h' x y) (hx : x ≠ 0) (hy : y ≠ 0) : blocks h' := ⟨Nat.lt_of_lt_of_le hb.1 u.1, by rw [u.2 0 (Nat.lt_of_succ_lt hb.1) (Ne.symm hx) (Ne.symm hy)]; exact hb.2⟩
theorem rs_upd2 {h h' : Heap} {s x y : Nat} {v : Value} {l : List (List Value)} (hr : RS h s v l) (u : Upd2 h h' x y) (hx : vb v ≠ x) (hy : vb v ≠ y) : RS h' s v l := by
  refine ⟨hr.all, ?_⟩
  rcases hr.is with h1 | ⟨b, c, e, ro, h1, h2, h3⟩
  · exact .inl h1
  · refine .inr ⟨b, c, e, ro, h1, ?_, by have := u.1; omega⟩
    rw [h1] at hx hy
    rw [u.2 b h3 hx hy]; exact h2
/-- What another index does leaves this one as it was. -/
theorem IX.other {h h' : Heap} {xb lb y : Nat} {l : List One} (hi : IX h xb lb l) (u : Upd h h' y) (hx : xb ≠ y) (hl : l ≠ [] → lb ≠ y) : IX h' xb lb l :=
  ⟨Nat.lt_of_lt_of_le hi.xn u.1, Nat.lt_of_lt_of_le hi.ln u.1, hi.ne, (u.2 _ hi.xn hx).trans hi.x, fun hn => (u.2 _ hi.ln (hl hn)).trans (hi.l hn)⟩
theorem YX.other {h h' : Heap} {yb lb x : Nat} {l : List One} (hi : YX h yb lb l) (u : Upd h h' x) (hx : yb ≠ x) (hl : l ≠ [] → lb ≠ x) : YX h' yb lb l :=
  ⟨Nat.lt_of_lt_of_le hi.yn u.1, Nat.lt_of_lt_of_le hi.ln u.1, hi.ne, (u.2 _ hi.yn hx).trans hi.y, fun hn => (u.2 _ hi.ln (hl hn)).trans (hi.l hn)⟩

/-- Both indexes know the same. -/
structure Both (h : Heap) (xb xl yb yl : Nat) (l : List One) : Prop where
  x : IX h xb xl l
  y : YX h yb yl l
  xy : xb ≠ yl
  yx : yb ≠ xl
  ll : l ≠ [] → xl ≠ yl
  x0 : xl ≠ 0
  y0 : yl ≠ 0
theorem Both.ext {h h' : Heap} {xb xl yb yl : Nat} {l : List One} (b : Both h xb xl yb yl l) (e : Ext h h') : Both h' xb xl yb yl l := ⟨b.x.ext e, b.y.ext e, b.xy, b.yx, b.ll, b.x0, b.y0⟩
theorem Both.keep {h h' : Heap} {xb xl yb yl : Nat} {l : List One} (b : Both h xb xl yb yl l) (hn : h.n ≤ h'.n) (hg : ∀ j, j < h.n → h'.get j = h.get j) : Both h' xb xl yb yl l := b.ext ⟨hn, hg⟩
theorem ne_nil_len {l l' : List One} (h : l'.length = l.length) (hn : l' ≠ []) : l ≠ [] := by
  rintro rfl
  exact hn (List.length_eq_zero_iff.1 h)
/-- One of them does something, then the other. -/
theorem Both.step {h h1 h2 h3 : Heap} {xb xl yb yl : Nat} {l l' : List One} (b : Both h xb xl yb yl l) (hlen : l'.length = l.length) (u1 : Upd h h1 xl) (i1 : IX h1 xb xl l') (e2 : Ext h1 h2) (u3 : Upd h2 h3 yl) (i3 : YX h3 yb yl l') :
    Both h3 xb xl yb yl l' ∧ Upd2 h h3 xl yl :=
  ⟨⟨(i1.ext e2).other u3 b.xy fun hn => b.ll (ne_nil_len hlen hn), i3, b.xy, b.yx, fun hn => b.ll (ne_nil_len hlen hn), b.x0, b.y0⟩, u1.upd2x.trans ((Ext.upd2 e2).trans u3.upd2y)⟩
theorem Both.mid {h h1 : Heap} {xb xl yb yl : Nat} {l : List One} (b : Both h xb xl yb yl l) (u1 : Upd h h1 xl) : YX h1 yb yl l := b.y.other u1 b.yx fun hn => Ne.symm (b.ll hn)

theorem Pl.same {p : Pl} : seqEq p.cells.toArray p.cells.toArray [(0, true), (1, true), (2, true), (3, true), (4, false)] = some true := by
  simp [Pl.cells, seqEq, plainEq]
end Go.Am.YtdcppkhobfbpeaaDoor
