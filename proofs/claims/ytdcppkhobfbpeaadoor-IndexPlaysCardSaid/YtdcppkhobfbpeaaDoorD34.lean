/-
  The document's index: its rows, its table.
-/
import Derived.Test.YtdcppkhobfbpeaaDoorD33
set_option linter.unusedVariables false
set_option linter.unusedSimpArgs false
namespace Go.Am.YtdcppkhobfbpeaaDoor
open Go Go.Am Go.Proofs

/-- A row ends right ahead of a chunk just if the chunk ahead of it may be had. -/
structure RowsSo2 (fs : List Bool) (i : Nat) (out : List (Nat × Nat)) : Prop where
  so : RowsSo fs i out
  last : (∃ p, out.getLast? = some p ∧ p.1 + p.2 = i) ↔ (0 < i ∧ fs[i - 1]? = some true)
theorem rowsSo2_0 {fs : List Bool} : RowsSo2 fs 0 [] := ⟨rowsSo_0, by simp⟩
theorem rowsSo2_false {fs : List Bool} {i : Nat} {out : List (Nat × Nat)} (h : RowsSo2 fs i out) (hf : fs[i]? = some false) : RowsSo2 fs (i + 1) out := by
  refine ⟨rowsSo_false h.so hf, ?_⟩
  constructor
  · rintro ⟨p, hp, e⟩
    have := rowsSo_le h.so p (List.mem_of_getLast? hp)
    omega
  · rintro ⟨_, e⟩
    rw [Nat.add_sub_cancel, hf] at e; cases e
theorem rowsSo2_true {fs : List Bool} {i : Nat} {out : List (Nat × Nat)} (h : RowsSo2 fs i out) (hf : fs[i]? = some true) : RowsSo2 fs (i + 1) (rowStep out i) := by
  refine ⟨rowsSo_true h.so hf, ?_⟩
  constructor
  · intro _; exact ⟨by omega, by rw [Nat.add_sub_cancel]; exact hf⟩
  · intro _
    unfold rowStep
    split
    · rename_i p hp
      split
      · rename_i e; exact ⟨(p.1, p.2 + 1), by simp, by show p.1 + (p.2 + 1) = i + 1; omega⟩
      · exact ⟨(i, 1), by simp, rfl⟩
    · exact ⟨(i, 1), by simp, rfl⟩

theorem f36_spec {h : Heap} {Q : Value → Heap → Prop} {yb lb : Nat} {l : List One} (hi : YX h yb lb l) (ht : ∀ o ∈ l, Tidy o) (hn : l.length ≤ 1000)
    (q : ∀ v h', Ext h h' → OS h' 43 2 h.n v ((rowsOf (frees l)).map spanC) → Q v h') : WC T (.func (.func 36) #[] #[]) [.pointer (some ⟨yb, 0, none⟩)] h Q := by
  refine WC_fn T36 rfl ?_
  simp (disch := first | assumption | omega | (simp only [push_n, set_n]; done) | (simp only [push_n, set_n]; omega) | fail) only [go_sem, ↓reduceIte, Nat.reduceEqDiff, Nat.reduceAdd, Nat.reduceMul, Int.reduceToNat, Int.reduceAdd, Int.reduceTDiv, Nat.reduceLeDiff, ir36]
  refine WE_loop (fun m a h' => ∃ (k : Nat) (v : Value) (out : List (Nat × Nat)), m = l.length - k ∧ k ≤ l.length ∧ a.get 0 = .pointer (some ⟨yb, 0, none⟩) ∧ a.get 3 = v ∧ a.get 4 = .int .i64 k ∧ a.marks = [] ∧ Ext h h' ∧ OS h' 43 2 h.n v (out.map spanC) ∧ out.length ≤ k ∧ RowsSo2 (frees l) k out) ?_ (m := l.length) ⟨0, .slice none 0 0, [], by omega, by omega, by simp (disch := first | assumption | omega | (simp only [push_n, set_n]; done) | (simp only [push_n, set_n]; omega) | fail) only [go_sem, ↓reduceIte, Nat.reduceEqDiff, Nat.reduceAdd, Nat.reduceMul, Int.reduceToNat, Int.reduceAdd, Int.reduceTDiv, Nat.reduceLeDiff], by simp (disch := first | assumption | omega | (simp only [push_n, set_n]; done) | (simp only [push_n, set_n]; omega) | fail) only [go_sem, ↓reduceIte, Nat.reduceEqDiff, Nat.reduceAdd, Nat.reduceMul, Int.reduceToNat, Int.reduceAdd, Int.reduceTDiv, Nat.reduceLeDiff], by simp (disch := first | assumption | omega | (simp only [push_n, set_n]; done) | (simp only [push_n, set_n]; omega) | fail) only [go_sem, ↓reduceIte, Nat.reduceEqDiff, Nat.reduceAdd, Nat.reduceMul, Int.reduceToNat, Int.reduceAdd, Int.reduceTDiv, Nat.reduceLeDiff], rfl, Ext.refl _, OS.nil, by simp, rowsSo2_0⟩
  rintro m a h2 ⟨k, v, out, rfl, hk, a0, a3, a4, am, x2, ho, hol, hso⟩
  have n_x2 := Ext.n_le x2; try simp only [push_n, set_n] at n_x2
  have iy := (hi.ext x2).y
  by_cases hkn : k < l.length
  · obtain ⟨o, hc⟩ : ∃ o, l[k]? = some o := ⟨_, List.getElem?_eq_getElem hkn⟩
    have hfk := free_get hc
    have hv2 := ho.ixv
    rw [List.length_map] at hv2
    rw [hv2] at a3
    have hol2 : (out.map spanC).flatten.length = out.length * 2 := by rw [flatten_length _ 2 (fun y hy => by obtain ⟨z, _, rfl⟩ := List.mem_map.1 hy; rfl), List.length_map]
    have stepl : (rowStep out k).length ≤ k + 1 := by have := rowStep_length (out := out) (i := k); omega
    have bound : ∀ H : Heap, Ext h2 H → out ≠ [] → H.get (vb v) = .cells (out.map spanC).flatten 43 false := fun H hH hne => by
      have hne' : out.map spanC ≠ [] := by simpa using hne
      rw [hH.2 (vb v) (ho.vb_le hne').2]; exact ho.cells hne'
    have app : ∀ H : Heap, Ext h2 H → ∃ v' h4, appV (H.push (.cells [.int .i64 k, .int .i64 1] 43 false)) 43 2 16 (ixv (vb v) out.length) (.slice (some ⟨H.n, 0, none⟩) 1 1) = some (v', h4) ∧ OS h4 43 2 h.n v' ((out ++ [(k, 1)]).map spanC) ∧ Ext h h4 := fun H hH => by
      obtain ⟨v', h4, e1, o4, x4, n4, g4, vc⟩ := OS.app_ext (h0 := h) (h := H.push (.cells [.int .i64 k, .int .i64 1] 43 false)) (B := H.n) (bytes := 16) ((x2.trans hH).push) ((ho.ext hH).ext (Ext.push (Ext.refl H))) (get_push_eq rfl) rfl (by decide) (by simp; omega)
      rw [← hv2]
      exact ⟨v', h4, e1, by rw [List.map_append]; exact o4, x4⟩
    have hlast := hso.last
    simp (disch := first | assumption | omega | (simp only [push_n, set_n]; done) | (simp only [push_n, set_n]; omega) | fail) only [go_sem, ↓reduceIte, Nat.reduceEqDiff, Nat.reduceAdd, Nat.reduceMul, Int.reduceToNat, Int.reduceAdd, Int.reduceTDiv, Nat.reduceLeDiff, a0, a3, a4, am, iy]
    refine f61_spec (i := k) (hi.ext x2) hc (ht o (List.mem_of_getElem? hc)) fun h3 x3 => ?_
    have n_x3 := Ext.n_le x3; try simp only [push_n, set_n] at n_x3
    cases hf : o.free with
    | false =>
      rw [hf] at hfk
      have hso' := rowsSo2_false hso hfk
      simp (disch := first | assumption | omega | (simp only [push_n, set_n]; done) | (simp only [push_n, set_n]; omega) | fail) only [go_sem, ↓reduceIte, Nat.reduceEqDiff, Nat.reduceAdd, Nat.reduceMul, Int.reduceToNat, Int.reduceAdd, Int.reduceTDiv, Nat.reduceLeDiff, a0, a3, a4, am]
      exact ⟨_, Nat.sub_lt_sub_left hkn (Nat.lt_succ_self k), k + 1, v, out, rfl, by omega, hv2.symm, rfl, by repeat (first | assumption | exact Ext.refl _ | refine Ext.push ?_ | refine Ext.set ?_ (by omega) | refine Ext.trans ?_ (by assumption)), ho.ext (by repeat (first | assumption | exact Ext.refl _ | refine Ext.push ?_ | refine Ext.set ?_ (by omega) | refine Ext.trans ?_ (by assumption))), by omega, hso'⟩
    | true =>
      rw [hf] at hfk
      have hso' := rowsSo2_true hso hfk
      by_cases k0 : 0 < k
      · obtain ⟨o', hc'⟩ : ∃ o', l[k - 1]? = some o' := ⟨_, List.getElem?_eq_getElem (by omega)⟩
        have hfk' := free_get hc'
        have ek : (k : Int) - 1 = ((k - 1 : Nat) : Int) := by omega
        simp (disch := first | assumption | omega | (simp only [push_n, set_n]; done) | (simp only [push_n, set_n]; omega) | fail) only [go_sem, ↓reduceIte, Nat.reduceEqDiff, Nat.reduceAdd, Nat.reduceMul, Int.reduceToNat, Int.reduceAdd, Int.reduceTDiv, Nat.reduceLeDiff, a0, a3, a4, am, ek]
        refine f61_spec (i := k - 1) ((hi.ext x2).ext x3) hc' (ht o' (List.mem_of_getElem? hc')) fun h4 x4 => ?_
        have n_x4 := Ext.n_le x4; try simp only [push_n, set_n] at n_x4
        cases hf' : o'.free with
        | false =>
          rw [hf'] at hfk'
          have hno : ¬ (0 < k ∧ (frees l)[k - 1]? = some true) := by rw [hfk']; simp
          have hro : rowStep out k = out ++ [(k, 1)] := by
            unfold rowStep
            cases hl : out.getLast? with
            | none =>
              have : out = [] := List.getLast?_eq_none_iff.1 hl
              subst this; rfl
            | some p =>
              simp only
              rw [if_neg]
              intro e
              exact hno (hlast.1 ⟨p, hl, e⟩)
          rw [hro] at hso' stepl
          obtain ⟨v', h4, e1, o4, x4⟩ := app h4 (by repeat (first | assumption | exact Ext.refl _ | refine Ext.push ?_ | refine Ext.set ?_ (by omega) | refine Ext.trans ?_ (by assumption)))
          simp (disch := first | assumption | omega | (simp only [push_n, set_n]; done) | (simp only [push_n, set_n]; omega) | fail) only [go_sem, ↓reduceIte, Nat.reduceEqDiff, Nat.reduceAdd, Nat.reduceMul, Int.reduceToNat, Int.reduceAdd, Int.reduceTDiv, Nat.reduceLeDiff, a0, a3, a4, am, e1]
          exact ⟨_, Nat.sub_lt_sub_left hkn (Nat.lt_succ_self k), k + 1, v', _, rfl, by omega, rfl, rfl, x4, o4, stepl, hso'⟩
        | true =>
          rw [hf'] at hfk'
          obtain ⟨p, hl, hpk⟩ := hlast.2 ⟨k0, hfk'⟩
          have hne2 : out ≠ [] := by intro e; subst e; cases hl
          have hgl : out[out.length - 1]? = some p := by rw [← List.getLast?_eq_getElem?]; exact hl
          have hol1 : 1 ≤ out.length := List.length_pos_iff.2 hne2
          have gv := bound h4 (by repeat (first | assumption | exact Ext.refl _ | refine Ext.push ?_ | refine Ext.set ?_ (by omega) | refine Ext.trans ?_ (by assumption))) hne2
          have pv1 := getAt_part (out.map spanC) 2 ho.all (out.length - 1) 1 1 (spanC p) (by rw [List.getElem?_map, hgl]; rfl) (by decide)
          have etn : ((out.length : Int) - 1).toNat = out.length - 1 := by omega
          have hro : rowStep out k = out.set (out.length - 1) (p.1, p.2 + 1) := by
            unfold rowStep; simp only [hl]; rw [if_pos hpk]; exact set_last hl
          rw [hro] at hso' stepl
          obtain ⟨e2, o2⟩ := (ho.ext (h' := h4) (by repeat (first | assumption | exact Ext.refl _ | refine Ext.push ?_ | refine Ext.set ?_ (by omega) | refine Ext.trans ?_ (by assumption)))).put (j := out.length - 1) (o := 1) (vs := [.int .i64 ((p.2 : Int) + 1)]) (by rw [List.getElem?_map, hgl]; rfl) (Nat.le_refl 2)
          simp (disch := first | assumption | omega | (simp only [push_n, set_n]; done) | (simp only [push_n, set_n]; omega) | fail) only [go_sem, ↓reduceIte, Nat.reduceEqDiff, Nat.reduceAdd, Nat.reduceMul, Int.reduceToNat, Int.reduceAdd, Int.reduceTDiv, Nat.reduceLeDiff, a0, a3, a4, am, gv, pv1, spanC, etn, hol2]
          rw [e2]
          refine ⟨_, Nat.sub_lt_sub_left hkn (Nat.lt_succ_self k), k + 1, v, _, rfl, by omega, hv2.symm, rfl, Ext.set (by repeat (first | assumption | exact Ext.refl _ | refine Ext.push ?_ | refine Ext.set ?_ (by omega) | refine Ext.trans ?_ (by assumption))) (ho.vb_le (by simpa using hne2)).1, ?_, stepl, hso'⟩
          rw [List.map_set]
          exact o2
      · have hno : ¬ (0 < k ∧ (frees l)[k - 1]? = some true) := fun e => k0 e.1
        have hro : rowStep out k = out ++ [(k, 1)] := by
          unfold rowStep
          cases hl : out.getLast? with
          | none =>
            have : out = [] := List.getLast?_eq_none_iff.1 hl
            subst this; rfl
          | some p =>
            simp only
            rw [if_neg]
            intro e
            exact hno (hlast.1 ⟨p, hl, e⟩)
        rw [hro] at hso' stepl
        obtain ⟨v', h4, e1, o4, x4⟩ := app h3 (by repeat (first | assumption | exact Ext.refl _ | refine Ext.push ?_ | refine Ext.set ?_ (by omega) | refine Ext.trans ?_ (by assumption)))
        simp (disch := first | assumption | omega | (simp only [push_n, set_n]; done) | (simp only [push_n, set_n]; omega) | fail) only [go_sem, ↓reduceIte, Nat.reduceEqDiff, Nat.reduceAdd, Nat.reduceMul, Int.reduceToNat, Int.reduceAdd, Int.reduceTDiv, Nat.reduceLeDiff, a0, a3, a4, am, e1]
        exact ⟨_, Nat.sub_lt_sub_left hkn (Nat.lt_succ_self k), k + 1, v', _, rfl, by omega, rfl, rfl, x4, o4, stepl, hso'⟩
  · obtain rfl : k = l.length := by omega
    simp (disch := first | assumption | omega | (simp only [push_n, set_n]; done) | (simp only [push_n, set_n]; omega) | fail) only [go_sem, ↓reduceIte, Nat.reduceEqDiff, Nat.reduceAdd, Nat.reduceMul, Int.reduceToNat, Int.reduceAdd, Int.reduceTDiv, Nat.reduceLeDiff, a0, a3, a4, am, iy]
    have := rowsSo_end (fs := frees l) (by have := hso.so; rwa [show (frees l).length = l.length by simp [frees]])
    rw [this] at q
    exact q _ _ x2 ho

end Go.Am.YtdcppkhobfbpeaaDoor
