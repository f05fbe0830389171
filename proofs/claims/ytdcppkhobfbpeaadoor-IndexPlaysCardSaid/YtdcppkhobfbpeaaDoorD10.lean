/-
  The table's words.
-/
import Derived.Test.YtdcppkhobfbpeaaDoorD9
set_option linter.unusedVariables false
set_option linter.unusedSimpArgs false
namespace Go.Am.YtdcppkhobfbpeaaDoor
open Go Go.Am Go.Proofs

/-- The chunks as the table tells them: what is taken as a huge one is told as free. -/
def leftOf (left : Nat) (o : One) : Nat := if o.c.kind = 2 ∧ o.t ≠ 0#64 then o.c.many else left
def tableAux : Nat → List One → List Ck
  | _, [] => []
  | left, o :: r => (if 0 < leftOf left o then .free else o.c) :: tableAux (leftOf left o - 1) r
def tableM (l : List One) : List Ck := tableAux 0 l
theorem table_drop {left i : Nat} {l : List One} {o : One} (h : l[i]? = some o) : tableAux left (l.drop i) = (if 0 < leftOf left o then .free else o.c) :: tableAux (leftOf left o - 1) (l.drop (i + 1)) := by
  have hi : i < l.length := by
    rcases Nat.lt_or_ge i l.length with h1 | h1
    · exact h1
    · rw [List.getElem?_eq_none h1] at h; cases h
  rw [List.drop_eq_getElem_cons hi]
  rw [List.getElem?_eq_getElem hi] at h
  injection h with h
  rw [h]; rfl

theorem f16_spec {h : Heap} {Q : Value → Heap → Prop} {xb lb : Nat} {l : List One} (hb : blocks h) (hi : IX h xb lb l) (hn : l.length ≤ 1000) (hok : ∀ o ∈ l, o.c.ok)
    (q : ∀ v h', Ext h h' → OS h' 45 1 h.n v ((tableM l).map Ck.word) → Q v h') : WC T (.func (.func 16) #[] #[]) [.pointer (some ⟨xb, 0, none⟩)] h Q := by
  refine WC_fn T16 rfl ?_
  have ix := hi.x
  simp (disch := first | assumption | omega | (simp only [push_n, set_n]; done) | (simp only [push_n, set_n]; omega) | fail) only [go_sem, ↓reduceIte, Nat.reduceEqDiff, Nat.reduceAdd, Nat.reduceMul, Int.reduceToNat, Int.reduceAdd, Int.reduceTDiv, Nat.reduceLeDiff, ir16, ix]
  refine WE_loop (fun m a h' => ∃ (k left : Nat) (v : Value) (out : List Ck), m = l.length - k ∧ k ≤ l.length ∧ left ≤ 8191 ∧ out.length = k ∧ a.get 3 = v ∧ a.get 4 = .int .i64 left ∧ a.get 12 = ixv lb l.length ∧ a.get 13 = .int .i64 l.length ∧ a.get 14 = .int .i64 k ∧ a.marks = [] ∧ Ext h h' ∧ OS h' 45 1 h.n v (out.map Ck.word) ∧ tableM l = out ++ tableAux left (l.drop k)) ?_ (m := l.length) ⟨0, 0, _, [], by omega, by omega, by omega, rfl, by simp (disch := first | assumption | omega | (simp only [push_n, set_n]; done) | (simp only [push_n, set_n]; omega) | fail) only [go_sem, ↓reduceIte, Nat.reduceEqDiff, Nat.reduceAdd, Nat.reduceMul, Int.reduceToNat, Int.reduceAdd, Int.reduceTDiv, Nat.reduceLeDiff], by simp (disch := first | assumption | omega | (simp only [push_n, set_n]; done) | (simp only [push_n, set_n]; omega) | fail) only [go_sem, ↓reduceIte, Nat.reduceEqDiff, Nat.reduceAdd, Nat.reduceMul, Int.reduceToNat, Int.reduceAdd, Int.reduceTDiv, Nat.reduceLeDiff], by simp (disch := first | assumption | omega | (simp only [push_n, set_n]; done) | (simp only [push_n, set_n]; omega) | fail) only [go_sem, ↓reduceIte, Nat.reduceEqDiff, Nat.reduceAdd, Nat.reduceMul, Int.reduceToNat, Int.reduceAdd, Int.reduceTDiv, Nat.reduceLeDiff], by simp (disch := first | assumption | omega | (simp only [push_n, set_n]; done) | (simp only [push_n, set_n]; omega) | fail) only [go_sem, ↓reduceIte, Nat.reduceEqDiff, Nat.reduceAdd, Nat.reduceMul, Int.reduceToNat, Int.reduceAdd, Int.reduceTDiv, Nat.reduceLeDiff], by simp (disch := first | assumption | omega | (simp only [push_n, set_n]; done) | (simp only [push_n, set_n]; omega) | fail) only [go_sem, ↓reduceIte, Nat.reduceEqDiff, Nat.reduceAdd, Nat.reduceMul, Int.reduceToNat, Int.reduceAdd, Int.reduceTDiv, Nat.reduceLeDiff], rfl, Ext.refl _, OS.nil, rfl⟩
  rintro m a h1 ⟨k, left, v, out, rfl, hk, hleft, hout, a3, a4, a12, a13, a14, am, hx, ho, ht⟩
  have n_hx := Ext.n_le hx; try simp only [push_n, set_n] at n_hx
  by_cases hkn : k < l.length
  · obtain ⟨o, hc⟩ : ∃ o, l[k]? = some o := ⟨_, List.getElem?_eq_getElem hkn⟩
    have hcok := hok o (List.mem_of_getElem? hc)
    have hne : l ≠ [] := by intro e; subst e; simp at hkn
    have gl := (hx.2 lb hi.ln).trans (hi.l hne)
    have hl := getAt_map (f := One.cells) (s := 6) (fun _ => rfl) hc
    rw [table_drop hc] at ht
    have hb2 := Ck.bounds hcok
    have nk : ∀ o' : One, o'.c.kind = 2 → o'.c.ok → 1 ≤ o'.c.many := fun o' hk' hok' => by
      obtain ⟨n, e⟩ := Ck.kind_huge hk'
      rw [e] at hok' ⊢
      exact hok'.1
    by_cases h2 : o.c.kind = 2
    · by_cases h3 : o.t = 0#64
      · have e0 : leftOf left o = left := by unfold leftOf; rw [if_neg (by simp [h3])]
        by_cases h4 : 0 < left
        · skip
          simp (disch := first | assumption | omega | (simp only [push_n, set_n]; done) | (simp only [push_n, set_n]; omega) | fail) only [go_sem, ↓reduceIte, Nat.reduceEqDiff, Nat.reduceAdd, Nat.reduceMul, Int.reduceToNat, Int.reduceAdd, Int.reduceTDiv, Nat.reduceLeDiff, a3, a4, a12, a13, a14, am, gl, hl, One.cells, h3]
          refine f50_spec (c := Ck.free) ((hb.ext hx).ext (by repeat (first | assumption | exact Ext.refl _ | refine Ext.push ?_ | refine Ext.set ?_ (by omega) | refine Ext.trans ?_ (by assumption)))) trivial fun h5 x5 => ?_
          have n_x5 := Ext.n_le x5; try simp only [push_n, set_n] at n_x5
          obtain ⟨v', h6, e1, o6, x6, n6, g6, vc⟩ := OS.app_ext (h := h5.push (.cells (Ck.free).word 45 false)) (B := h5.n) (bytes := 8) (by repeat (first | assumption | exact Ext.refl _ | refine Ext.push ?_ | refine Ext.set ?_ (by omega) | refine Ext.trans ?_ (by assumption))) ((ho.ext (h' := h5) (by repeat (first | assumption | exact Ext.refl _ | refine Ext.push ?_ | refine Ext.set ?_ (by omega) | refine Ext.trans ?_ (by assumption)))).ext (by repeat (first | assumption | exact Ext.refl _ | refine Ext.push ?_ | refine Ext.set ?_ (by omega) | refine Ext.trans ?_ (by assumption)))) (get_push_eq rfl) rfl (by decide) (by simp; omega)
          unfold Ck.word at e1
          simp (disch := first | assumption | omega | (simp only [push_n, set_n]; done) | (simp only [push_n, set_n]; omega) | fail) only [go_sem, ↓reduceIte, Nat.reduceEqDiff, Nat.reduceAdd, Nat.reduceMul, Int.reduceToNat, Int.reduceAdd, Int.reduceTDiv, Nat.reduceLeDiff, a3, a4, a12, a13, a14, am, e1]
          refine ⟨_, Nat.sub_lt_sub_left hkn (Nat.lt_succ_self k), k + 1, left - 1, v', out ++ [Ck.free], rfl, by omega, by omega, by simp [hout], rfl, by congr 1; omega, rfl, x6, by rw [List.map_append]; exact o6, ?_⟩
          rw [ht, e0, if_pos h4]; simp
        · skip
          simp (disch := first | assumption | omega | (simp only [push_n, set_n]; done) | (simp only [push_n, set_n]; omega) | fail) only [go_sem, ↓reduceIte, Nat.reduceEqDiff, Nat.reduceAdd, Nat.reduceMul, Int.reduceToNat, Int.reduceAdd, Int.reduceTDiv, Nat.reduceLeDiff, a3, a4, a12, a13, a14, am, gl, hl, One.cells, h3]
          refine f50_spec (c := o.c) ((hb.ext hx).ext (by repeat (first | assumption | exact Ext.refl _ | refine Ext.push ?_ | refine Ext.set ?_ (by omega) | refine Ext.trans ?_ (by assumption)))) hcok fun h5 x5 => ?_
          have n_x5 := Ext.n_le x5; try simp only [push_n, set_n] at n_x5
          obtain ⟨v', h6, e1, o6, x6, n6, g6, vc⟩ := OS.app_ext (h := h5.push (.cells (o.c).word 45 false)) (B := h5.n) (bytes := 8) (by repeat (first | assumption | exact Ext.refl _ | refine Ext.push ?_ | refine Ext.set ?_ (by omega) | refine Ext.trans ?_ (by assumption))) ((ho.ext (h' := h5) (by repeat (first | assumption | exact Ext.refl _ | refine Ext.push ?_ | refine Ext.set ?_ (by omega) | refine Ext.trans ?_ (by assumption)))).ext (by repeat (first | assumption | exact Ext.refl _ | refine Ext.push ?_ | refine Ext.set ?_ (by omega) | refine Ext.trans ?_ (by assumption)))) (get_push_eq rfl) rfl (by decide) (by simp; omega)
          unfold Ck.word at e1
          simp (disch := first | assumption | omega | (simp only [push_n, set_n]; done) | (simp only [push_n, set_n]; omega) | fail) only [go_sem, ↓reduceIte, Nat.reduceEqDiff, Nat.reduceAdd, Nat.reduceMul, Int.reduceToNat, Int.reduceAdd, Int.reduceTDiv, Nat.reduceLeDiff, a3, a4, a12, a13, a14, am, e1]
          refine ⟨_, Nat.sub_lt_sub_left hkn (Nat.lt_succ_self k), k + 1, left - 1, v', out ++ [o.c], rfl, by omega, by omega, by simp [hout], rfl, by congr 1; omega, rfl, x6, by rw [List.map_append]; exact o6, ?_⟩
          rw [ht, e0, if_neg h4]; simp
      · have e0 : leftOf left o = o.c.many := by unfold leftOf; rw [if_pos ⟨h2, h3⟩]
        have h4 := nk o h2 hcok
        simp (disch := first | assumption | omega | (simp only [push_n, set_n]; done) | (simp only [push_n, set_n]; omega) | fail) only [go_sem, ↓reduceIte, Nat.reduceEqDiff, Nat.reduceAdd, Nat.reduceMul, Int.reduceToNat, Int.reduceAdd, Int.reduceTDiv, Nat.reduceLeDiff, a3, a4, a12, a13, a14, am, gl, hl, One.cells, h3]
        refine f50_spec (c := Ck.free) ((hb.ext hx).ext (by repeat (first | assumption | exact Ext.refl _ | refine Ext.push ?_ | refine Ext.set ?_ (by omega) | refine Ext.trans ?_ (by assumption)))) trivial fun h5 x5 => ?_
        have n_x5 := Ext.n_le x5; try simp only [push_n, set_n] at n_x5
        obtain ⟨v', h6, e1, o6, x6, n6, g6, vc⟩ := OS.app_ext (h := h5.push (.cells (Ck.free).word 45 false)) (B := h5.n) (bytes := 8) (by repeat (first | assumption | exact Ext.refl _ | refine Ext.push ?_ | refine Ext.set ?_ (by omega) | refine Ext.trans ?_ (by assumption))) ((ho.ext (h' := h5) (by repeat (first | assumption | exact Ext.refl _ | refine Ext.push ?_ | refine Ext.set ?_ (by omega) | refine Ext.trans ?_ (by assumption)))).ext (by repeat (first | assumption | exact Ext.refl _ | refine Ext.push ?_ | refine Ext.set ?_ (by omega) | refine Ext.trans ?_ (by assumption)))) (get_push_eq rfl) rfl (by decide) (by simp; omega)
        unfold Ck.word at e1
        simp (disch := first | assumption | omega | (simp only [push_n, set_n]; done) | (simp only [push_n, set_n]; omega) | fail) only [go_sem, ↓reduceIte, Nat.reduceEqDiff, Nat.reduceAdd, Nat.reduceMul, Int.reduceToNat, Int.reduceAdd, Int.reduceTDiv, Nat.reduceLeDiff, a3, a4, a12, a13, a14, am, e1]
        refine ⟨_, Nat.sub_lt_sub_left hkn (Nat.lt_succ_self k), k + 1, o.c.many - 1, v', out ++ [Ck.free], rfl, by omega, by omega, by simp [hout], rfl, by congr 1; omega, rfl, x6, by rw [List.map_append]; exact o6, ?_⟩
        rw [ht, e0, if_pos (show 0 < o.c.many by omega)]; simp
    · have e0 : leftOf left o = left := by unfold leftOf; rw [if_neg (by simp [h2])]
      by_cases h4 : 0 < left
      · skip
        simp (disch := first | assumption | omega | (simp only [push_n, set_n]; done) | (simp only [push_n, set_n]; omega) | fail) only [go_sem, ↓reduceIte, Nat.reduceEqDiff, Nat.reduceAdd, Nat.reduceMul, Int.reduceToNat, Int.reduceAdd, Int.reduceTDiv, Nat.reduceLeDiff, a3, a4, a12, a13, a14, am, gl, hl, One.cells, h2]
        refine f50_spec (c := Ck.free) ((hb.ext hx).ext (by repeat (first | assumption | exact Ext.refl _ | refine Ext.push ?_ | refine Ext.set ?_ (by omega) | refine Ext.trans ?_ (by assumption)))) trivial fun h5 x5 => ?_
        have n_x5 := Ext.n_le x5; try simp only [push_n, set_n] at n_x5
        obtain ⟨v', h6, e1, o6, x6, n6, g6, vc⟩ := OS.app_ext (h := h5.push (.cells (Ck.free).word 45 false)) (B := h5.n) (bytes := 8) (by repeat (first | assumption | exact Ext.refl _ | refine Ext.push ?_ | refine Ext.set ?_ (by omega) | refine Ext.trans ?_ (by assumption))) ((ho.ext (h' := h5) (by repeat (first | assumption | exact Ext.refl _ | refine Ext.push ?_ | refine Ext.set ?_ (by omega) | refine Ext.trans ?_ (by assumption)))).ext (by repeat (first | assumption | exact Ext.refl _ | refine Ext.push ?_ | refine Ext.set ?_ (by omega) | refine Ext.trans ?_ (by assumption)))) (get_push_eq rfl) rfl (by decide) (by simp; omega)
        unfold Ck.word at e1
        simp (disch := first | assumption | omega | (simp only [push_n, set_n]; done) | (simp only [push_n, set_n]; omega) | fail) only [go_sem, ↓reduceIte, Nat.reduceEqDiff, Nat.reduceAdd, Nat.reduceMul, Int.reduceToNat, Int.reduceAdd, Int.reduceTDiv, Nat.reduceLeDiff, a3, a4, a12, a13, a14, am, e1]
        refine ⟨_, Nat.sub_lt_sub_left hkn (Nat.lt_succ_self k), k + 1, left - 1, v', out ++ [Ck.free], rfl, by omega, by omega, by simp [hout], rfl, by congr 1; omega, rfl, x6, by rw [List.map_append]; exact o6, ?_⟩
        rw [ht, e0, if_pos h4]; simp
      · skip
        simp (disch := first | assumption | omega | (simp only [push_n, set_n]; done) | (simp only [push_n, set_n]; omega) | fail) only [go_sem, ↓reduceIte, Nat.reduceEqDiff, Nat.reduceAdd, Nat.reduceMul, Int.reduceToNat, Int.reduceAdd, Int.reduceTDiv, Nat.reduceLeDiff, a3, a4, a12, a13, a14, am, gl, hl, One.cells, h2]
        refine f50_spec (c := o.c) ((hb.ext hx).ext (by repeat (first | assumption | exact Ext.refl _ | refine Ext.push ?_ | refine Ext.set ?_ (by omega) | refine Ext.trans ?_ (by assumption)))) hcok fun h5 x5 => ?_
        have n_x5 := Ext.n_le x5; try simp only [push_n, set_n] at n_x5
        obtain ⟨v', h6, e1, o6, x6, n6, g6, vc⟩ := OS.app_ext (h := h5.push (.cells (o.c).word 45 false)) (B := h5.n) (bytes := 8) (by repeat (first | assumption | exact Ext.refl _ | refine Ext.push ?_ | refine Ext.set ?_ (by omega) | refine Ext.trans ?_ (by assumption))) ((ho.ext (h' := h5) (by repeat (first | assumption | exact Ext.refl _ | refine Ext.push ?_ | refine Ext.set ?_ (by omega) | refine Ext.trans ?_ (by assumption)))).ext (by repeat (first | assumption | exact Ext.refl _ | refine Ext.push ?_ | refine Ext.set ?_ (by omega) | refine Ext.trans ?_ (by assumption)))) (get_push_eq rfl) rfl (by decide) (by simp; omega)
        unfold Ck.word at e1
        simp (disch := first | assumption | omega | (simp only [push_n, set_n]; done) | (simp only [push_n, set_n]; omega) | fail) only [go_sem, ↓reduceIte, Nat.reduceEqDiff, Nat.reduceAdd, Nat.reduceMul, Int.reduceToNat, Int.reduceAdd, Int.reduceTDiv, Nat.reduceLeDiff, a3, a4, a12, a13, a14, am, e1]
        refine ⟨_, Nat.sub_lt_sub_left hkn (Nat.lt_succ_self k), k + 1, left - 1, v', out ++ [o.c], rfl, by omega, by omega, by simp [hout], rfl, by congr 1; omega, rfl, x6, by rw [List.map_append]; exact o6, ?_⟩
        rw [ht, e0, if_neg h4]; simp
  · obtain rfl : k = l.length := by omega
    simp (disch := first | assumption | omega | (simp only [push_n, set_n]; done) | (simp only [push_n, set_n]; omega) | fail) only [go_sem, ↓reduceIte, Nat.reduceEqDiff, Nat.reduceAdd, Nat.reduceMul, Int.reduceToNat, Int.reduceAdd, Int.reduceTDiv, Nat.reduceLeDiff, a3, a4, a12, a13, a14, am]
    rw [List.drop_length] at ht
    rw [ht, show tableAux left [] = [] from rfl, List.append_nil] at q
    exact q _ _ hx ho
end Go.Am.YtdcppkhobfbpeaaDoor
