/-
  Two lists that are one; which tables are right.
-/
import Derived.Test.YtdcppkhobfbpeaaDoorD20
set_option linter.unusedVariables false
set_option linter.unusedSimpArgs false
namespace Go.Am.YtdcppkhobfbpeaaDoor
open Go Go.Am Go.Proofs

theorem f34_spec {h : Heap} {Q : Value → Heap → Prop} {u v : Value} {xs : List (Nat × Nat)} (hu : RS h 2 u (xs.map spanC)) (hv : RS h 2 v (xs.map spanC)) (hn : xs.length ≤ 1000000)
    (q : Q (.bool true) h) : WC T (.func (.func 34) #[] #[]) [u, v] h Q := by
  refine WC_fn T34 rfl ?_
  obtain ⟨al, ac, e1⟩ := hu.lenV
  obtain ⟨bl, bc, e2⟩ := hv.lenV
  subst e1 e2
  simp (disch := first | assumption | omega | (simp only [push_n, set_n]; done) | (simp only [push_n, set_n]; omega) | fail) only [go_sem, ↓reduceIte, Nat.reduceEqDiff, Nat.reduceAdd, Nat.reduceMul, Int.reduceToNat, Int.reduceAdd, Int.reduceTDiv, Nat.reduceLeDiff, ir34]
  refine WE_loop (fun t a h' => ∃ k : Nat, t = xs.length - k ∧ k ≤ xs.length ∧ h' = h ∧ a.get 0 = .slice al xs.length ac ∧ a.get 1 = .slice bl xs.length bc ∧ a.get 5 = .int .i64 k ∧ a.marks = []) ?_ (m := xs.length) ⟨0, by omega, by omega, rfl, by simp (disch := first | assumption | omega | (simp only [push_n, set_n]; done) | (simp only [push_n, set_n]; omega) | fail) only [go_sem, ↓reduceIte, Nat.reduceEqDiff, Nat.reduceAdd, Nat.reduceMul, Int.reduceToNat, Int.reduceAdd, Int.reduceTDiv, Nat.reduceLeDiff], by simp (disch := first | assumption | omega | (simp only [push_n, set_n]; done) | (simp only [push_n, set_n]; omega) | fail) only [go_sem, ↓reduceIte, Nat.reduceEqDiff, Nat.reduceAdd, Nat.reduceMul, Int.reduceToNat, Int.reduceAdd, Int.reduceTDiv, Nat.reduceLeDiff], by simp (disch := first | assumption | omega | (simp only [push_n, set_n]; done) | (simp only [push_n, set_n]; omega) | fail) only [go_sem, ↓reduceIte, Nat.reduceEqDiff, Nat.reduceAdd, Nat.reduceMul, Int.reduceToNat, Int.reduceAdd, Int.reduceTDiv, Nat.reduceLeDiff], rfl⟩
  rintro t a h1 ⟨k, rfl, hk, rfl, a0, a1, a5, am⟩
  by_cases hlt : k < xs.length
  · obtain ⟨b1, c1, e1, ro1, hv1, hg1, hb1⟩ := hu.atM hlt
    obtain ⟨b2, c2, e2, ro2, hv2, hg2, hb2⟩ := hv.atM hlt
    injection hv1 with hv1 _ hv1'
    injection hv2 with hv2 _ hv2'
    subst hv1 hv1' hv2 hv2'
    obtain ⟨x, hx⟩ : ∃ x, xs[k]? = some x := ⟨_, List.getElem?_eq_getElem hlt⟩
    have l1 := getAt_map (f := spanC) (s := 2) (fun _ => rfl) hx
    have hs : seqEq (spanC x).toArray (spanC x).toArray [(0, true), (1, true)] = some true := by simp [seqEq, spanC, plainEq]
    simp (disch := first | assumption | omega | (simp only [push_n, set_n]; done) | (simp only [push_n, set_n]; omega) | fail) only [go_sem, ↓reduceIte, Nat.reduceEqDiff, Nat.reduceAdd, Nat.reduceMul, Int.reduceToNat, Int.reduceAdd, Int.reduceTDiv, Nat.reduceLeDiff, a0, a1, a5, am, hg1, hg2, l1, hs]
    exact ⟨_, Nat.sub_lt_sub_left hlt (Nat.lt_succ_self k), k + 1, rfl, by omega, rfl⟩
  · obtain rfl : k = xs.length := by omega
    simp (disch := first | assumption | omega | (simp only [push_n, set_n]; done) | (simp only [push_n, set_n]; omega) | fail) only [go_sem, ↓reduceIte, Nat.reduceEqDiff, Nat.reduceAdd, Nat.reduceMul, Int.reduceToNat, Int.reduceAdd, Int.reduceTDiv, Nat.reduceLeDiff, a0, a1, a5, am]
    exact q

theorem f38_spec {h : Heap} {Q : Value → Heap → Prop} {u v : Value} {xs : List Bl} (hu : RS h 3 u (xs.map Bl.cells)) (hv : RS h 3 v (xs.map Bl.cells)) (hn : xs.length ≤ 1000000)
    (q : Q (.bool true) h) : WC T (.func (.func 38) #[] #[]) [u, v] h Q := by
  refine WC_fn T38 rfl ?_
  obtain ⟨al, ac, e1⟩ := hu.lenV
  obtain ⟨bl, bc, e2⟩ := hv.lenV
  subst e1 e2
  simp (disch := first | assumption | omega | (simp only [push_n, set_n]; done) | (simp only [push_n, set_n]; omega) | fail) only [go_sem, ↓reduceIte, Nat.reduceEqDiff, Nat.reduceAdd, Nat.reduceMul, Int.reduceToNat, Int.reduceAdd, Int.reduceTDiv, Nat.reduceLeDiff, ir38]
  refine WE_loop (fun t a h' => ∃ k : Nat, t = xs.length - k ∧ k ≤ xs.length ∧ h' = h ∧ a.get 0 = .slice al xs.length ac ∧ a.get 1 = .slice bl xs.length bc ∧ a.get 5 = .int .i64 k ∧ a.marks = []) ?_ (m := xs.length) ⟨0, by omega, by omega, rfl, by simp (disch := first | assumption | omega | (simp only [push_n, set_n]; done) | (simp only [push_n, set_n]; omega) | fail) only [go_sem, ↓reduceIte, Nat.reduceEqDiff, Nat.reduceAdd, Nat.reduceMul, Int.reduceToNat, Int.reduceAdd, Int.reduceTDiv, Nat.reduceLeDiff], by simp (disch := first | assumption | omega | (simp only [push_n, set_n]; done) | (simp only [push_n, set_n]; omega) | fail) only [go_sem, ↓reduceIte, Nat.reduceEqDiff, Nat.reduceAdd, Nat.reduceMul, Int.reduceToNat, Int.reduceAdd, Int.reduceTDiv, Nat.reduceLeDiff], by simp (disch := first | assumption | omega | (simp only [push_n, set_n]; done) | (simp only [push_n, set_n]; omega) | fail) only [go_sem, ↓reduceIte, Nat.reduceEqDiff, Nat.reduceAdd, Nat.reduceMul, Int.reduceToNat, Int.reduceAdd, Int.reduceTDiv, Nat.reduceLeDiff], rfl⟩
  rintro t a h1 ⟨k, rfl, hk, rfl, a0, a1, a5, am⟩
  by_cases hlt : k < xs.length
  · obtain ⟨b1, c1, e1, ro1, hv1, hg1, hb1⟩ := hu.atM hlt
    obtain ⟨b2, c2, e2, ro2, hv2, hg2, hb2⟩ := hv.atM hlt
    injection hv1 with hv1 _ hv1'
    injection hv2 with hv2 _ hv2'
    subst hv1 hv1' hv2 hv2'
    obtain ⟨x, hx⟩ : ∃ x, xs[k]? = some x := ⟨_, List.getElem?_eq_getElem hlt⟩
    have l1 := getAt_map (f := Bl.cells) (s := 3) (fun _ => rfl) hx
    have hs : seqEq x.cells.toArray x.cells.toArray [(0, true), (1, true), (2, true)] = some true := by simp [seqEq, Bl.cells, plainEq]
    simp (disch := first | assumption | omega | (simp only [push_n, set_n]; done) | (simp only [push_n, set_n]; omega) | fail) only [go_sem, ↓reduceIte, Nat.reduceEqDiff, Nat.reduceAdd, Nat.reduceMul, Int.reduceToNat, Int.reduceAdd, Int.reduceTDiv, Nat.reduceLeDiff, a0, a1, a5, am, hg1, hg2, l1, hs]
    exact ⟨_, Nat.sub_lt_sub_left hlt (Nat.lt_succ_self k), k + 1, rfl, by omega, rfl⟩
  · obtain rfl : k = xs.length := by omega
    simp (disch := first | assumption | omega | (simp only [push_n, set_n]; done) | (simp only [push_n, set_n]; omega) | fail) only [go_sem, ↓reduceIte, Nat.reduceEqDiff, Nat.reduceAdd, Nat.reduceMul, Int.reduceToNat, Int.reduceAdd, Int.reduceTDiv, Nat.reduceLeDiff, a0, a1, a5, am]
    exact q

/-- Which tables are right: behind 't' tails that are still to come. -/
def rightAux : Nat → List Ck → Bool
  | t, [] => decide (t = 0)
  | t, c :: r => match c with
    | .tail => decide (0 < t) && rightAux (t - 1) r
    | .huge n => decide (t = 0) && rightAux (n - 1) r
    | _ => decide (t = 0) && rightAux 0 r
def tailsAux : Nat → List Ck → Option Nat
  | t, [] => some t
  | t, c :: r => if decide (c.kind = 3) ≠ decide (0 < t) then none else tailsAux (if c.kind = 3 then t - 1 else if c.kind = 2 then c.many - 1 else t) r
theorem right_tails : ∀ (t : Nat) (cs : List Ck), rightAux t cs = decide (tailsAux t cs = some 0)
  | t, [] => by simp [rightAux, tailsAux]
  | t, c :: r => by
    unfold rightAux tailsAux
    cases c with
    | tail =>
      by_cases ht : 0 < t
      · simp [Ck.kind, ht, right_tails]
      · simp [Ck.kind, ht]
    | huge n =>
      by_cases ht : t = 0
      · subst ht; simp [Ck.kind, Ck.many, right_tails]
      · have : 0 < t := by omega
        simp [Ck.kind, ht, this]
    | _ =>
      by_cases ht : t = 0
      · subst ht; simp [Ck.kind, right_tails]
      · have : 0 < t := by omega
        simp [Ck.kind, ht, this]
theorem tails_drop {t i : Nat} {cs : List Ck} {c : Ck} (h : cs[i]? = some c) : tailsAux t (cs.drop i) = if decide (c.kind = 3) ≠ decide (0 < t) then none else tailsAux (if c.kind = 3 then t - 1 else if c.kind = 2 then c.many - 1 else t) (cs.drop (i + 1)) := by
  have hi : i < cs.length := by
    rcases Nat.lt_or_ge i cs.length with h1 | h1
    · exact h1
    · rw [List.getElem?_eq_none h1] at h; cases h
  rw [List.drop_eq_getElem_cons hi]
  rw [List.getElem?_eq_getElem hi] at h
  injection h with h
  rw [h]; rfl

theorem f39_spec {h : Heap} {Q : Value → Heap → Prop} {tv : Value} {cs : List Ck} (hb : blocks h) (hr : RS h 1 tv (cs.map Ck.word)) (hok : ∀ c ∈ cs, c.ok) (hn : cs.length ≤ 1000)
    (q : ∀ h', Ext h h' → Q (.bool (rightAux 0 cs)) h') : WC T (.func (.func 39) #[] #[]) [tv] h Q := by
  refine WC_fn T39 rfl ?_
  simp (disch := first | assumption | omega | (simp only [push_n, set_n]; done) | (simp only [push_n, set_n]; omega) | fail) only [go_sem, ↓reduceIte, Nat.reduceEqDiff, Nat.reduceAdd, Nat.reduceMul, Int.reduceToNat, Int.reduceAdd, Int.reduceTDiv, Nat.reduceLeDiff, ir39]
  refine f17_spec hb hr hok hn fun v1 h1 x1 o1 => ?_
  have n_x1 := Ext.n_le x1; try simp only [push_n, set_n] at n_x1
  have hv := o1.ixv
  rw [List.length_map] at hv
  have hcells := o1.cells
  have hvb := o1.vb_le
  generalize vb v1 = D at *
  subst hv
  simp (disch := first | assumption | omega | (simp only [push_n, set_n]; done) | (simp only [push_n, set_n]; omega) | fail) only [go_sem, ↓reduceIte, Nat.reduceEqDiff, Nat.reduceAdd, Nat.reduceMul, Int.reduceToNat, Int.reduceAdd, Int.reduceTDiv, Nat.reduceLeDiff]
  rw [right_tails] at q
  refine WE_loop (fun m a h' => ∃ (i t : Nat), m = cs.length - i ∧ i ≤ cs.length ∧ t ≤ 8191 ∧ a.get 4 = .bool true ∧ a.get 5 = .int .i64 t ∧ a.get 13 = ixv D cs.length ∧ a.get 14 = .int .i64 cs.length ∧ a.get 15 = .int .i64 i ∧ a.marks = [] ∧ Ext h1 h' ∧ tailsAux 0 cs = tailsAux t (cs.drop i)) ?_ (m := cs.length) ⟨0, 0, by omega, by omega, by omega, by simp (disch := first | assumption | omega | (simp only [push_n, set_n]; done) | (simp only [push_n, set_n]; omega) | fail) only [go_sem, ↓reduceIte, Nat.reduceEqDiff, Nat.reduceAdd, Nat.reduceMul, Int.reduceToNat, Int.reduceAdd, Int.reduceTDiv, Nat.reduceLeDiff], by simp (disch := first | assumption | omega | (simp only [push_n, set_n]; done) | (simp only [push_n, set_n]; omega) | fail) only [go_sem, ↓reduceIte, Nat.reduceEqDiff, Nat.reduceAdd, Nat.reduceMul, Int.reduceToNat, Int.reduceAdd, Int.reduceTDiv, Nat.reduceLeDiff], by simp (disch := first | assumption | omega | (simp only [push_n, set_n]; done) | (simp only [push_n, set_n]; omega) | fail) only [go_sem, ↓reduceIte, Nat.reduceEqDiff, Nat.reduceAdd, Nat.reduceMul, Int.reduceToNat, Int.reduceAdd, Int.reduceTDiv, Nat.reduceLeDiff], by simp (disch := first | assumption | omega | (simp only [push_n, set_n]; done) | (simp only [push_n, set_n]; omega) | fail) only [go_sem, ↓reduceIte, Nat.reduceEqDiff, Nat.reduceAdd, Nat.reduceMul, Int.reduceToNat, Int.reduceAdd, Int.reduceTDiv, Nat.reduceLeDiff], by simp (disch := first | assumption | omega | (simp only [push_n, set_n]; done) | (simp only [push_n, set_n]; omega) | fail) only [go_sem, ↓reduceIte, Nat.reduceEqDiff, Nat.reduceAdd, Nat.reduceMul, Int.reduceToNat, Int.reduceAdd, Int.reduceTDiv, Nat.reduceLeDiff], rfl, Ext.refl _, rfl⟩
  rintro m a h2 ⟨i, t, rfl, hil, ht, a4, a5, a13, a14, a15, am, x2, htl⟩
  have n_x2 := Ext.n_le x2; try simp only [push_n, set_n] at n_x2
  by_cases hin : i < cs.length
  · obtain ⟨c, hc⟩ : ∃ c, cs[i]? = some c := ⟨_, List.getElem?_eq_getElem hin⟩
    have hne : cs.map Ck.cells ≠ [] := by intro e; rw [List.map_eq_nil_iff] at e; subst e; simp at hin
    have gD := (x2.2 D (hvb hne).2).trans (hcells hne)
    have hl := getAt_map (f := Ck.cells) (s := 5) (fun _ => rfl) hc
    have hcb := Ck.bounds (hok c (List.mem_of_getElem? hc))
    have hmany : c.kind = 2 → 1 ≤ c.many := fun hk => by
      have h1 := hok c (List.mem_of_getElem? hc)
      obtain ⟨n, e⟩ := Ck.kind_huge hk
      rw [e] at h1 ⊢; exact h1.1
    rw [tails_drop hc] at htl
    by_cases k3 : c.kind = 3
    · by_cases t0 : 0 < t
      · rw [if_neg (by simp [k3, t0]), if_pos k3] at htl
        simp (disch := first | assumption | omega | (simp only [push_n, set_n]; done) | (simp only [push_n, set_n]; omega) | fail) only [go_sem, ↓reduceIte, Nat.reduceEqDiff, Nat.reduceAdd, Nat.reduceMul, Int.reduceToNat, Int.reduceAdd, Int.reduceTDiv, Nat.reduceLeDiff, a4, a5, a13, a14, a15, am, gD, hl]
        exact ⟨_, Nat.sub_lt_sub_left hin (Nat.lt_succ_self i), i + 1, t - 1, rfl, by omega, by omega, by congr 1; omega, rfl, by repeat (first | assumption | exact Ext.refl _ | refine Ext.push ?_ | refine Ext.set ?_ (by omega) | refine Ext.trans ?_ (by assumption)), htl⟩
      · rw [if_pos (by simp [k3, t0])] at htl
        rw [htl] at q
        simp (disch := first | assumption | omega | (simp only [push_n, set_n]; done) | (simp only [push_n, set_n]; omega) | fail) only [go_sem, ↓reduceIte, Nat.reduceEqDiff, Nat.reduceAdd, Nat.reduceMul, Int.reduceToNat, Int.reduceAdd, Int.reduceTDiv, Nat.reduceLeDiff, a4, a5, a13, a14, a15, am, gD, hl]
        exact q _ (by repeat (first | assumption | exact Ext.refl _ | refine Ext.push ?_ | refine Ext.set ?_ (by omega) | refine Ext.trans ?_ (by assumption)))
    · by_cases t0 : 0 < t
      · rw [if_pos (by simp [k3, t0])] at htl
        rw [htl] at q
        simp (disch := first | assumption | omega | (simp only [push_n, set_n]; done) | (simp only [push_n, set_n]; omega) | fail) only [go_sem, ↓reduceIte, Nat.reduceEqDiff, Nat.reduceAdd, Nat.reduceMul, Int.reduceToNat, Int.reduceAdd, Int.reduceTDiv, Nat.reduceLeDiff, a4, a5, a13, a14, a15, am, gD, hl]
        exact q _ (by repeat (first | assumption | exact Ext.refl _ | refine Ext.push ?_ | refine Ext.set ?_ (by omega) | refine Ext.trans ?_ (by assumption)))
      · rw [if_neg (by simp [k3, t0]), if_neg k3] at htl
        by_cases k2 : c.kind = 2
        · have := hmany k2
          rw [if_pos k2] at htl
          simp (disch := first | assumption | omega | (simp only [push_n, set_n]; done) | (simp only [push_n, set_n]; omega) | fail) only [go_sem, ↓reduceIte, Nat.reduceEqDiff, Nat.reduceAdd, Nat.reduceMul, Int.reduceToNat, Int.reduceAdd, Int.reduceTDiv, Nat.reduceLeDiff, a4, a5, a13, a14, a15, am, gD, hl]
          exact ⟨_, Nat.sub_lt_sub_left hin (Nat.lt_succ_self i), i + 1, c.many - 1, rfl, by omega, by omega, by congr 1; omega, rfl, by repeat (first | assumption | exact Ext.refl _ | refine Ext.push ?_ | refine Ext.set ?_ (by omega) | refine Ext.trans ?_ (by assumption)), htl⟩
        · rw [if_neg k2] at htl
          simp (disch := first | assumption | omega | (simp only [push_n, set_n]; done) | (simp only [push_n, set_n]; omega) | fail) only [go_sem, ↓reduceIte, Nat.reduceEqDiff, Nat.reduceAdd, Nat.reduceMul, Int.reduceToNat, Int.reduceAdd, Int.reduceTDiv, Nat.reduceLeDiff, a4, a5, a13, a14, a15, am, gD, hl]
          exact ⟨_, Nat.sub_lt_sub_left hin (Nat.lt_succ_self i), i + 1, t, rfl, by omega, by omega, rfl, rfl, by repeat (first | assumption | exact Ext.refl _ | refine Ext.push ?_ | refine Ext.set ?_ (by omega) | refine Ext.trans ?_ (by assumption)), htl⟩
  · obtain rfl : i = cs.length := by omega
    rw [List.drop_length] at htl
    rw [htl] at q
    have e : decide (tailsAux t [] = some 0) = decide (t = 0) := by simp [tailsAux]
    rw [e] at q
    simp (disch := first | assumption | omega | (simp only [push_n, set_n]; done) | (simp only [push_n, set_n]; omega) | fail) only [go_sem, ↓reduceIte, Nat.reduceEqDiff, Nat.reduceAdd, Nat.reduceMul, Int.reduceToNat, Int.reduceAdd, Int.reduceTDiv, Nat.reduceLeDiff, a4, a5, a13, a14, a15, am]
    by_cases t0 : t = 0
    · subst t0
      simp only [decide_true] at q
      simp (disch := first | assumption | omega | (simp only [push_n, set_n]; done) | (simp only [push_n, set_n]; omega) | fail) only [go_sem, ↓reduceIte, Nat.reduceEqDiff, Nat.reduceAdd, Nat.reduceMul, Int.reduceToNat, Int.reduceAdd, Int.reduceTDiv, Nat.reduceLeDiff, a4, a5, a13, a14, a15, am]
      exact q _ (by repeat (first | assumption | exact Ext.refl _ | refine Ext.push ?_ | refine Ext.set ?_ (by omega) | refine Ext.trans ?_ (by assumption)))
    · rw [decide_eq_false t0] at q
      simp (disch := first | assumption | omega | (simp only [push_n, set_n]; done) | (simp only [push_n, set_n]; omega) | fail) only [go_sem, ↓reduceIte, Nat.reduceEqDiff, Nat.reduceAdd, Nat.reduceMul, Int.reduceToNat, Int.reduceAdd, Int.reduceTDiv, Nat.reduceLeDiff, a4, a5, a13, a14, a15, am]
      exact q _ (by repeat (first | assumption | exact Ext.refl _ | refine Ext.push ?_ | refine Ext.set ?_ (by omega) | refine Ext.trans ?_ (by assumption)))
end Go.Am.YtdcppkhobfbpeaaDoor
