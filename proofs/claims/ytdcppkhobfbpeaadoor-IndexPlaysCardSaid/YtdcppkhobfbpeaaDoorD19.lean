/-
  The statement IndexNoSpace on the abstract machine.
-/
import Derived.Test.YtdcppkhobfbpeaaDoorD18
set_option linter.unusedVariables false
set_option linter.unusedSimpArgs false
namespace Go.Am.YtdcppkhobfbpeaaDoor
open Go Go.Am Go.Proofs

theorem rs_upd {h h' : Heap} {s lb : Nat} {v : Value} {l : List (List Value)} (hr : RS h s v l) (u : Upd h h' lb) (hv : vb v ≠ lb) : RS h' s v l := by
  refine ⟨hr.all, ?_⟩
  rcases hr.is with h1 | ⟨b, c, e, ro, h1, h2, h3⟩
  · exact .inl h1
  · refine .inr ⟨b, c, e, ro, h1, ?_, by have := u.1; omega⟩
    rw [u.2 b h3 (by rw [h1] at hv; exact hv)]; exact h2
theorem rs_vb {h : Heap} {s : Nat} {v : Value} {l : List (List Value)} (hr : RS h s v l) (h0 : 0 < h.n) : vb v < h.n := by
  rcases hr.is with ⟨h1, _⟩ | ⟨b, c, e, ro, h1, h2, h3⟩
  · rw [h1]; exact h0
  · rw [h1]; exact h3
theorem news_calm (ns : List Nat) : Calm (news (madeM ns)) := by
  have hg := madeM_good ns
  refine ⟨news_t, fun o ho => ?_, news_fits hg.fits⟩
  obtain ⟨c, hc, rfl⟩ := List.mem_map.1 ho
  exact hg.ok c hc
theorem any_take {α : Type} {p : α → Bool} {l : List α} {k : Nat} {x : α} (h : l[k]? = some x) : (l.take (k + 1)).any p = ((l.take k).any p || p x) := by
  rw [take_succ h, List.any_append]; simp
theorem u16_mod {s m : Nat} (hm : 0 < m) : ((s : Int).tmod m) = ((s % m : Nat) : Int) := by rw [Int.tmod_eq_emod_of_nonneg (by omega)]; omega

set_option maxHeartbeats 2000000 in
theorem f4_spec {h : Heap} {Q : Value → Heap → Prop} {tv sv : Value} {ns ss : List Nat} (hb : blocks h) (hr : RS h 1 tv (ns.map u16C)) (h16 : ∀ n ∈ ns, n < 65536) (hs : RS h 1 sv (ss.map u16C)) (s16 : ∀ n ∈ ss, n < 65536)
    (hvb : vb sv = 0 ∨ 2 ≤ vb sv) (q : ∀ h', Q (.bool true) h') : WC T (.func (.func 4) #[] #[]) [tv, sv] h Q := by
  refine WC_fn T4 rfl ?_
  have lt : ∀ H, lenE H tv = some (.int .i64 ns.length, H) := fun H => by have := hr.len (h' := H); simpa using this
  have ls : ∀ H, lenE H sv = some (.int .i64 ss.length, H) := fun H => by have := hs.len (h' := H); simpa using this
  simp (disch := first | assumption | omega | (simp only [push_n, set_n]; done) | (simp only [push_n, set_n]; omega) | fail) only [go_sem, ↓reduceIte, Nat.reduceEqDiff, Nat.reduceAdd, Nat.reduceMul, Int.reduceToNat, Int.reduceAdd, Int.reduceTDiv, Nat.reduceLeDiff, ir4]
  refine f9_spec hb fun h1 x1 => ?_
  have n_x1 := Ext.n_le x1; try simp only [push_n, set_n] at n_x1
  by_cases h40 : 40 < ns.length
  · simp (disch := first | assumption | omega | (simp only [push_n, set_n]; done) | (simp only [push_n, set_n]; omega) | fail) only [go_sem, ↓reduceIte, Nat.reduceEqDiff, Nat.reduceAdd, Nat.reduceMul, Int.reduceToNat, Int.reduceAdd, Int.reduceTDiv, Nat.reduceLeDiff, lt]
    exact q _
  by_cases s40 : 40 < ss.length
  · simp (disch := first | assumption | omega | (simp only [push_n, set_n]; done) | (simp only [push_n, set_n]; omega) | fail) only [go_sem, ↓reduceIte, Nat.reduceEqDiff, Nat.reduceAdd, Nat.reduceMul, Int.reduceToNat, Int.reduceAdd, Int.reduceTDiv, Nat.reduceLeDiff, lt, ls]
    exact q _
  simp (disch := first | assumption | omega | (simp only [push_n, set_n]; done) | (simp only [push_n, set_n]; omega) | fail) only [go_sem, ↓reduceIte, Nat.reduceEqDiff, Nat.reduceAdd, Nat.reduceMul, Int.reduceToNat, Int.reduceAdd, Int.reduceTDiv, Nat.reduceLeDiff, lt, ls]
  refine f11_spec (hr.mono x1) (by omega) h16 fun v h2 x2 o2 => ?_
  have n_x2 := Ext.n_le x2; try simp only [push_n, set_n] at n_x2
  have hg := madeM_good ns
  have b2 : blocks h2 := (hb.ext x1).ext x2
  simp (disch := first | assumption | omega | (simp only [push_n, set_n]; done) | (simp only [push_n, set_n]; omega) | fail) only [go_sem, ↓reduceIte, Nat.reduceEqDiff, Nat.reduceAdd, Nat.reduceMul, Int.reduceToNat, Int.reduceAdd, Int.reduceTDiv, Nat.reduceLeDiff]
  refine f10_spec (cs := madeM ns) b2 o2.rs hg.ok (by have := hg.len; omega) ?_
  intro xb lb h3 x3 hxb hlb i3
  have n_x3 := Ext.n_le x3; try simp only [push_n, set_n] at n_x3
  have hml := hg.len
  change IX h3 xb lb (news (madeM ns)) at i3
  have c3 := news_calm ns
  have hnl : (news (madeM ns)).length ≤ 20 := by simp [news]; exact hml
  have b3 : blocks h3 := b2.ext x3
  have r3 : RS h3 1 sv (ss.map u16C) := ((hs.mono x1).mono x2).mono x3
  have hlb0 : lb ≠ 0 := by have := hb.1; omega
  have hvl : vb sv ≠ lb := by have := hb.1; have := rs_vb hs (by omega); omega
  generalize news (madeM ns) = l0 at *
  simp (disch := first | assumption | omega | (simp only [push_n, set_n]; done) | (simp only [push_n, set_n]; omega) | fail) only [go_sem, ↓reduceIte, Nat.reduceEqDiff, Nat.reduceAdd, Nat.reduceMul, Int.reduceToNat, Int.reduceAdd, Int.reduceTDiv, Nat.reduceLeDiff]
  refine WE_loop (fun m a h' => ∃ (i : Nat) (l : List One), m = ss.length - i ∧ i ≤ ss.length ∧ a.get 1 = sv ∧ a.get 5 = .bool true ∧ a.get 6 = .pointer (some ⟨xb, 0, none⟩) ∧ a.get 7 = .int .i64 i ∧ a.marks = [] ∧ blocks h' ∧ RS h' 1 sv (ss.map u16C) ∧ IX h' xb lb l ∧ Calm l ∧ l.length ≤ 20) ?_ (m := ss.length) ⟨0, l0, by omega, by omega, by simp (disch := first | assumption | omega | (simp only [push_n, set_n]; done) | (simp only [push_n, set_n]; omega) | fail) only [go_sem, ↓reduceIte, Nat.reduceEqDiff, Nat.reduceAdd, Nat.reduceMul, Int.reduceToNat, Int.reduceAdd, Int.reduceTDiv, Nat.reduceLeDiff], by simp (disch := first | assumption | omega | (simp only [push_n, set_n]; done) | (simp only [push_n, set_n]; omega) | fail) only [go_sem, ↓reduceIte, Nat.reduceEqDiff, Nat.reduceAdd, Nat.reduceMul, Int.reduceToNat, Int.reduceAdd, Int.reduceTDiv, Nat.reduceLeDiff], by simp (disch := first | assumption | omega | (simp only [push_n, set_n]; done) | (simp only [push_n, set_n]; omega) | fail) only [go_sem, ↓reduceIte, Nat.reduceEqDiff, Nat.reduceAdd, Nat.reduceMul, Int.reduceToNat, Int.reduceAdd, Int.reduceTDiv, Nat.reduceLeDiff], by simp (disch := first | assumption | omega | (simp only [push_n, set_n]; done) | (simp only [push_n, set_n]; omega) | fail) only [go_sem, ↓reduceIte, Nat.reduceEqDiff, Nat.reduceAdd, Nat.reduceMul, Int.reduceToNat, Int.reduceAdd, Int.reduceTDiv, Nat.reduceLeDiff], rfl, b3, r3, i3, c3, hnl⟩
  rintro m a h4 ⟨i, l, rfl, hil, a1, a5, a6, a7, am, b4, r4, i4, c4, hn⟩
  by_cases hin : i < ss.length
  · obtain ⟨s, hsi⟩ : ∃ s, ss[i]? = some s := ⟨_, List.getElem?_eq_getElem hin⟩
    have hs16 := s16 s (List.mem_of_getElem? hsi)
    obtain ⟨b, cc, e, ro, hv, hgb, hbn⟩ := r4.atM hin
    have hl := getAt_map1 (f := u16C) (fun _ => rfl) hsi
    rw [hv] at a1
    have e7 : (s : Int).tmod 200 = ((s % 200 : Nat) : Int) := by rw [Int.tmod_eq_emod_of_nonneg (by omega)]; omega
    simp (disch := first | assumption | omega | (simp only [push_n, set_n]; done) | (simp only [push_n, set_n]; omega) | fail) only [go_sem, ↓reduceIte, Nat.reduceEqDiff, Nat.reduceAdd, Nat.reduceMul, Int.reduceToNat, Int.reduceAdd, Int.reduceTDiv, Nat.reduceLeDiff, ls, a1, a5, a6, a7, am, hgb, hl, u16C, e7]
    have hok4 : ∀ o ∈ l, o.c.ok := c4.ok
    have hn7 : s % 200 ≤ 4096 := by omega
    have hw := would c4 (n := s % 200)
    have hk := kept c4 hn7
    generalize s % 200 = n at *
    have hokc : ∀ c ∈ l.map One.c, c.ok := fun c hc => by obtain ⟨o, ho, rfl⟩ := List.mem_map.1 hc; exact c4.ok o ho
    have hnc : (l.map One.c).length ≤ 20 := by rw [List.length_map]; exact hn
    have hrl : (rowsOf ((l.map One.c).map Ck.may)).length ≤ 21 := by have := rowsAux_length ((l.map One.c).map Ck.may) 0 0; unfold rowsOf; rw [List.length_map] at this; omega
    have hrm : ∀ p ∈ rowsOf ((l.map One.c).map Ck.may), p.1 + p.2 ≤ 20 := fun p hp => by
      have := (rowsAux_lt ((l.map One.c).map Ck.may) 0 0 (Nat.le_refl _) p hp).1
      rw [List.length_map] at this; omega
    refine f16_spec b4 i4 (by omega) hok4 fun v5 h5 x5 o5 => ?_
    have n_x5 := Ext.n_le x5; try simp only [push_n, set_n] at n_x5
    rw [calm_table c4] at o5
    generalize hcs : l.map One.c = cs at *
    simp (disch := first | assumption | omega | (simp only [push_n, set_n]; done) | (simp only [push_n, set_n]; omega) | fail) only [go_sem, ↓reduceIte, Nat.reduceEqDiff, Nat.reduceAdd, Nat.reduceMul, Int.reduceToNat, Int.reduceAdd, Int.reduceTDiv, Nat.reduceLeDiff, a1, a5, a6, a7, am]
    refine f15_spec (cs := cs) (b4.ext x5) o5.rs hokc (by omega) fun v6 h6 x6 o6 => ?_
    have n_x6 := Ext.n_le x6; try simp only [push_n, set_n] at n_x6
    generalize rowsOf (cs.map Ck.may) = rows at *
    have w6 := o6.ixv
    have g6 := o6.cells
    have p6 := o6.vb_le
    rw [List.length_map] at w6
    generalize vb v6 = D6 at *
    subst w6
    simp (disch := first | assumption | omega | (simp only [push_n, set_n]; done) | (simp only [push_n, set_n]; omega) | fail) only [go_sem, ↓reduceIte, Nat.reduceEqDiff, Nat.reduceAdd, Nat.reduceMul, Int.reduceToNat, Int.reduceAdd, Int.reduceTDiv, Nat.reduceLeDiff, a1, a5, a6, a7, am]
    refine f16_spec ((b4.ext x5).ext x6) ((i4.ext x5).ext x6) (by omega) hok4 fun v7 h7 x7 o7 => ?_
    have n_x7 := Ext.n_le x7; try simp only [push_n, set_n] at n_x7
    have e7 : tableM l = cs := by rw [calm_table c4]; exact hcs
    rw [e7] at o7
    simp (disch := first | assumption | omega | (simp only [push_n, set_n]; done) | (simp only [push_n, set_n]; omega) | fail) only [go_sem, ↓reduceIte, Nat.reduceEqDiff, Nat.reduceAdd, Nat.reduceMul, Int.reduceToNat, Int.reduceAdd, Int.reduceTDiv, Nat.reduceLeDiff, a1, a5, a6, a7, am]
    refine f17_spec (cs := cs) (((b4.ext x5).ext x6).ext x7) o7.rs hokc (by omega) fun v8 h8 x8 o8 => ?_
    have n_x8 := Ext.n_le x8; try simp only [push_n, set_n] at n_x8
    have w8 := o8.ixv
    have g8 := o8.cells
    have p8 := o8.vb_le
    rw [List.length_map] at w8
    generalize vb v8 = D8 at *
    subst w8
    have x48 : Ext h4 h8 := ((x5.trans x6).trans x7).trans x8
    have i8 := i4.ext x48
    simp (disch := first | assumption | omega | (simp only [push_n, set_n]; done) | (simp only [push_n, set_n]; omega) | fail) only [go_sem, ↓reduceIte, Nat.reduceEqDiff, Nat.reduceAdd, Nat.reduceMul, Int.reduceToNat, Int.reduceAdd, Int.reduceTDiv, Nat.reduceLeDiff, a1, a5, a6, a7, am]
    refine f12_spec (n := n) (l := l) (xb := xb) (lb := lb) (b4.ext x48) i8 (by omega) hn7 ?_
    intro h9 u9 i9
    have n9 := u9.1
    have b9 : blocks h9 := (b4.ext x48).upd u9 hlb0
    have ln4 := i4.ln
    generalize takeM l n = r at *
    obtain ⟨⟨pc, pi, pk, pm, pf⟩, er, l'⟩ := r
    simp only at hw hk i9
    have g6' : rows ≠ [] → (h9.push (.cells (Pl.mk pc pi pk pm pf).cells 30 false)).get D6 = .cells (rows.map spanC).flatten 43 false := fun hne => by
      have hne' : rows.map spanC ≠ [] := by simpa using hne
      have := p6 hne'
      rw [get_push_lt (by omega), u9.2 D6 (by omega) (by omega), x8.2 D6 (by omega), x7.2 D6 (by omega)]
      exact g6 hne'
    have g8' : cs ≠ [] → (h9.push (.cells (Pl.mk pc pi pk pm pf).cells 30 false)).get D8 = .cells (cs.map Ck.cells).flatten 47 false := fun hne => by
      have hne' : cs.map Ck.cells ≠ [] := by simpa using hne
      have := p8 hne'
      rw [get_push_lt (by omega), u9.2 D8 (by omega) (by omega)]
      exact g8 hne'
    simp (disch := first | assumption | omega | (simp only [push_n, set_n]; done) | (simp only [push_n, set_n]; omega) | fail) only [go_sem, ↓reduceIte, Nat.reduceEqDiff, Nat.reduceAdd, Nat.reduceMul, Int.reduceToNat, Int.reduceAdd, Int.reduceTDiv, Nat.reduceLeDiff, Pl.cells, a1, a5, a6, a7, am]
    refine WE_loop (fun m a' h' => ∃ k : Nat, m = rows.length - k ∧ k ≤ rows.length ∧ a'.get 1 = a.get 1 ∧ a'.get 5 = a.get 5 ∧ a'.get 6 = a.get 6 ∧ a'.get 7 = a.get 7 ∧ a'.get 8 = .int .i64 n ∧ a'.get 9 = ixv D6 rows.length ∧ a'.get 10 = ixv D8 cs.length ∧
      a'.get 12 = .pointer (some ⟨h9.n, 0, none⟩) ∧ a'.get 13 = .int .i64 er ∧ a'.get 14 = .bool ((rows.take k).any (rowB n)) ∧ a'.get 15 = .int .i64 k ∧ a'.marks = [] ∧ h' = h9.push (.cells (Pl.mk pc pi pk pm pf).cells 30 false)) ?_ (m := rows.length)
      ⟨0, by omega, by omega, by simp (disch := first | assumption | omega | (simp only [push_n, set_n]; done) | (simp only [push_n, set_n]; omega) | fail) only [go_sem, ↓reduceIte, Nat.reduceEqDiff, Nat.reduceAdd, Nat.reduceMul, Int.reduceToNat, Int.reduceAdd, Int.reduceTDiv, Nat.reduceLeDiff], by simp (disch := first | assumption | omega | (simp only [push_n, set_n]; done) | (simp only [push_n, set_n]; omega) | fail) only [go_sem, ↓reduceIte, Nat.reduceEqDiff, Nat.reduceAdd, Nat.reduceMul, Int.reduceToNat, Int.reduceAdd, Int.reduceTDiv, Nat.reduceLeDiff], by simp (disch := first | assumption | omega | (simp only [push_n, set_n]; done) | (simp only [push_n, set_n]; omega) | fail) only [go_sem, ↓reduceIte, Nat.reduceEqDiff, Nat.reduceAdd, Nat.reduceMul, Int.reduceToNat, Int.reduceAdd, Int.reduceTDiv, Nat.reduceLeDiff], by simp (disch := first | assumption | omega | (simp only [push_n, set_n]; done) | (simp only [push_n, set_n]; omega) | fail) only [go_sem, ↓reduceIte, Nat.reduceEqDiff, Nat.reduceAdd, Nat.reduceMul, Int.reduceToNat, Int.reduceAdd, Int.reduceTDiv, Nat.reduceLeDiff], by simp (disch := first | assumption | omega | (simp only [push_n, set_n]; done) | (simp only [push_n, set_n]; omega) | fail) only [go_sem, ↓reduceIte, Nat.reduceEqDiff, Nat.reduceAdd, Nat.reduceMul, Int.reduceToNat, Int.reduceAdd, Int.reduceTDiv, Nat.reduceLeDiff], by simp (disch := first | assumption | omega | (simp only [push_n, set_n]; done) | (simp only [push_n, set_n]; omega) | fail) only [go_sem, ↓reduceIte, Nat.reduceEqDiff, Nat.reduceAdd, Nat.reduceMul, Int.reduceToNat, Int.reduceAdd, Int.reduceTDiv, Nat.reduceLeDiff], by simp (disch := first | assumption | omega | (simp only [push_n, set_n]; done) | (simp only [push_n, set_n]; omega) | fail) only [go_sem, ↓reduceIte, Nat.reduceEqDiff, Nat.reduceAdd, Nat.reduceMul, Int.reduceToNat, Int.reduceAdd, Int.reduceTDiv, Nat.reduceLeDiff], by simp (disch := first | assumption | omega | (simp only [push_n, set_n]; done) | (simp only [push_n, set_n]; omega) | fail) only [go_sem, ↓reduceIte, Nat.reduceEqDiff, Nat.reduceAdd, Nat.reduceMul, Int.reduceToNat, Int.reduceAdd, Int.reduceTDiv, Nat.reduceLeDiff], by simp (disch := first | assumption | omega | (simp only [push_n, set_n]; done) | (simp only [push_n, set_n]; omega) | fail) only [go_sem, ↓reduceIte, Nat.reduceEqDiff, Nat.reduceAdd, Nat.reduceMul, Int.reduceToNat, Int.reduceAdd, Int.reduceTDiv, Nat.reduceLeDiff], by simp (disch := first | assumption | omega | (simp only [push_n, set_n]; done) | (simp only [push_n, set_n]; omega) | fail) only [go_sem, ↓reduceIte, Nat.reduceEqDiff, Nat.reduceAdd, Nat.reduceMul, Int.reduceToNat, Int.reduceAdd, Int.reduceTDiv, Nat.reduceLeDiff]; rfl, by simp (disch := first | assumption | omega | (simp only [push_n, set_n]; done) | (simp only [push_n, set_n]; omega) | fail) only [go_sem, ↓reduceIte, Nat.reduceEqDiff, Nat.reduceAdd, Nat.reduceMul, Int.reduceToNat, Int.reduceAdd, Int.reduceTDiv, Nat.reduceLeDiff], rfl, rfl⟩
    rintro m a2 h10 ⟨k, rfl, hkl, c1, c5, c6, c7, c8, c9, c10, c12, c13, c14, c15, cm, rfl⟩
    rw [a1] at c1
    rw [a5] at c5
    rw [a6] at c6
    rw [a7] at c7
    by_cases hkn : k < rows.length
    · obtain ⟨p, hp⟩ : ∃ p, rows[k]? = some p := ⟨_, List.getElem?_eq_getElem hkn⟩
      have hne : rows ≠ [] := by intro e; subst e; simp at hkn
      have hany := any_take (p := rowB n) hp
      have gr := g6' hne
      have hp1 := getAt_part (rows.map spanC) 2 (fun y hy => by obtain ⟨z, _, rfl⟩ := List.mem_map.1 hy; rfl) k 1 1 (spanC p) (by rw [List.getElem?_map, hp]; rfl) (by decide)
      have hpm := hrm p (List.mem_of_getElem? hp)
      cases hb14 : (rows.take k).any (rowB n) with
      | true =>
        rw [hb14] at c14 hany
        simp (disch := first | assumption | omega | (simp only [push_n, set_n]; done) | (simp only [push_n, set_n]; omega) | fail) only [go_sem, ↓reduceIte, Nat.reduceEqDiff, Nat.reduceAdd, Nat.reduceMul, Int.reduceToNat, Int.reduceAdd, Int.reduceTDiv, Nat.reduceLeDiff, c1, c5, c6, c7, c8, c9, c10, c12, c13, c14, c15, cm]
        exact ⟨_, Nat.sub_lt_sub_left hkn (Nat.lt_succ_self k), k + 1, rfl, by omega, a1.symm, a5.symm, a6.symm, a7.symm, by rw [hany]; rfl, rfl⟩
      | false =>
        rw [hb14] at c14 hany
        simp (disch := first | assumption | omega | (simp only [push_n, set_n]; done) | (simp only [push_n, set_n]; omega) | fail) only [go_sem, ↓reduceIte, Nat.reduceEqDiff, Nat.reduceAdd, Nat.reduceMul, Int.reduceToNat, Int.reduceAdd, Int.reduceTDiv, Nat.reduceLeDiff, c1, c5, c6, c7, c8, c9, c10, c12, c13, c14, c15, cm, gr, hp1, spanC]
        refine f18_spec hn7 ?_
        by_cases hc0 : chunksR n ≤ 1
        · by_cases hle : 1 ≤ p.2
          · have hrb : rowB n p = true := decide_eq_true (by omega)
            simp (disch := first | assumption | omega | (simp only [push_n, set_n]; done) | (simp only [push_n, set_n]; omega) | fail) only [go_sem, ↓reduceIte, Nat.reduceEqDiff, Nat.reduceAdd, Nat.reduceMul, Int.reduceToNat, Int.reduceAdd, Int.reduceTDiv, Nat.reduceLeDiff, c1, c5, c6, c7, c8, c9, c10, c12, c13, c14, c15, cm]
            exact ⟨_, Nat.sub_lt_sub_left hkn (Nat.lt_succ_self k), k + 1, rfl, by omega, a1.symm, a5.symm, a6.symm, a7.symm, by rw [hany, hrb]; rfl, rfl⟩
          · have hrb : rowB n p = false := decide_eq_false (by omega)
            simp (disch := first | assumption | omega | (simp only [push_n, set_n]; done) | (simp only [push_n, set_n]; omega) | fail) only [go_sem, ↓reduceIte, Nat.reduceEqDiff, Nat.reduceAdd, Nat.reduceMul, Int.reduceToNat, Int.reduceAdd, Int.reduceTDiv, Nat.reduceLeDiff, c1, c5, c6, c7, c8, c9, c10, c12, c13, c14, c15, cm]
            exact ⟨_, Nat.sub_lt_sub_left hkn (Nat.lt_succ_self k), k + 1, rfl, by omega, a1.symm, a5.symm, a6.symm, a7.symm, by rw [hany, hrb]; rfl, rfl⟩
        · by_cases hle : chunksR n ≤ p.2
          · have hrb : rowB n p = true := decide_eq_true (by omega)
            simp (disch := first | assumption | omega | (simp only [push_n, set_n]; done) | (simp only [push_n, set_n]; omega) | fail) only [go_sem, ↓reduceIte, Nat.reduceEqDiff, Nat.reduceAdd, Nat.reduceMul, Int.reduceToNat, Int.reduceAdd, Int.reduceTDiv, Nat.reduceLeDiff, c1, c5, c6, c7, c8, c9, c10, c12, c13, c14, c15, cm]
            exact ⟨_, Nat.sub_lt_sub_left hkn (Nat.lt_succ_self k), k + 1, rfl, by omega, a1.symm, a5.symm, a6.symm, a7.symm, by rw [hany, hrb]; rfl, rfl⟩
          · have hrb : rowB n p = false := decide_eq_false (by omega)
            simp (disch := first | assumption | omega | (simp only [push_n, set_n]; done) | (simp only [push_n, set_n]; omega) | fail) only [go_sem, ↓reduceIte, Nat.reduceEqDiff, Nat.reduceAdd, Nat.reduceMul, Int.reduceToNat, Int.reduceAdd, Int.reduceTDiv, Nat.reduceLeDiff, c1, c5, c6, c7, c8, c9, c10, c12, c13, c14, c15, cm]
            exact ⟨_, Nat.sub_lt_sub_left hkn (Nat.lt_succ_self k), k + 1, rfl, by omega, a1.symm, a5.symm, a6.symm, a7.symm, by rw [hany, hrb]; rfl, rfl⟩
    · obtain rfl : k = rows.length := by omega
      rw [List.take_length] at c14
      simp (disch := first | assumption | omega | (simp only [push_n, set_n]; done) | (simp only [push_n, set_n]; omega) | fail) only [go_sem, ↓reduceIte, Nat.reduceEqDiff, Nat.reduceAdd, Nat.reduceMul, Int.reduceToNat, Int.reduceAdd, Int.reduceTDiv, Nat.reduceLeDiff, c1, c5, c6, c7, c8, c9, c10, c12, c13, c14, c15, cm]
      refine WE_loop (fun m a' h' => ∃ k : Nat, m = cs.length - k ∧ k ≤ cs.length ∧ a'.get 1 = a.get 1 ∧ a'.get 5 = a.get 5 ∧ a'.get 6 = a.get 6 ∧ a'.get 7 = a.get 7 ∧ a'.get 8 = .int .i64 n ∧ a'.get 10 = ixv D8 cs.length ∧
        a'.get 12 = .pointer (some ⟨h9.n, 0, none⟩) ∧ a'.get 13 = .int .i64 er ∧ a'.get 14 = .bool (rows.any (rowB n) || (cs.take k).any (roomB n)) ∧ a'.get 16 = .int .i64 k ∧ a'.marks = [] ∧ Ext (h9.push (.cells (Pl.mk pc pi pk pm pf).cells 30 false)) h') ?_ (m := cs.length)
        ⟨0, by omega, by omega, by simp (disch := first | assumption | omega | (simp only [push_n, set_n]; done) | (simp only [push_n, set_n]; omega) | fail) only [go_sem, ↓reduceIte, Nat.reduceEqDiff, Nat.reduceAdd, Nat.reduceMul, Int.reduceToNat, Int.reduceAdd, Int.reduceTDiv, Nat.reduceLeDiff, c1, a1], by simp (disch := first | assumption | omega | (simp only [push_n, set_n]; done) | (simp only [push_n, set_n]; omega) | fail) only [go_sem, ↓reduceIte, Nat.reduceEqDiff, Nat.reduceAdd, Nat.reduceMul, Int.reduceToNat, Int.reduceAdd, Int.reduceTDiv, Nat.reduceLeDiff, c5, a5], by simp (disch := first | assumption | omega | (simp only [push_n, set_n]; done) | (simp only [push_n, set_n]; omega) | fail) only [go_sem, ↓reduceIte, Nat.reduceEqDiff, Nat.reduceAdd, Nat.reduceMul, Int.reduceToNat, Int.reduceAdd, Int.reduceTDiv, Nat.reduceLeDiff, c6, a6], by simp (disch := first | assumption | omega | (simp only [push_n, set_n]; done) | (simp only [push_n, set_n]; omega) | fail) only [go_sem, ↓reduceIte, Nat.reduceEqDiff, Nat.reduceAdd, Nat.reduceMul, Int.reduceToNat, Int.reduceAdd, Int.reduceTDiv, Nat.reduceLeDiff, c7, a7], by simp (disch := first | assumption | omega | (simp only [push_n, set_n]; done) | (simp only [push_n, set_n]; omega) | fail) only [go_sem, ↓reduceIte, Nat.reduceEqDiff, Nat.reduceAdd, Nat.reduceMul, Int.reduceToNat, Int.reduceAdd, Int.reduceTDiv, Nat.reduceLeDiff, c8], by simp (disch := first | assumption | omega | (simp only [push_n, set_n]; done) | (simp only [push_n, set_n]; omega) | fail) only [go_sem, ↓reduceIte, Nat.reduceEqDiff, Nat.reduceAdd, Nat.reduceMul, Int.reduceToNat, Int.reduceAdd, Int.reduceTDiv, Nat.reduceLeDiff, c10], by simp (disch := first | assumption | omega | (simp only [push_n, set_n]; done) | (simp only [push_n, set_n]; omega) | fail) only [go_sem, ↓reduceIte, Nat.reduceEqDiff, Nat.reduceAdd, Nat.reduceMul, Int.reduceToNat, Int.reduceAdd, Int.reduceTDiv, Nat.reduceLeDiff, c12], by simp (disch := first | assumption | omega | (simp only [push_n, set_n]; done) | (simp only [push_n, set_n]; omega) | fail) only [go_sem, ↓reduceIte, Nat.reduceEqDiff, Nat.reduceAdd, Nat.reduceMul, Int.reduceToNat, Int.reduceAdd, Int.reduceTDiv, Nat.reduceLeDiff, c13], by simp (disch := first | assumption | omega | (simp only [push_n, set_n]; done) | (simp only [push_n, set_n]; omega) | fail) only [go_sem, ↓reduceIte, Nat.reduceEqDiff, Nat.reduceAdd, Nat.reduceMul, Int.reduceToNat, Int.reduceAdd, Int.reduceTDiv, Nat.reduceLeDiff, c14, List.take_zero, List.any_nil, Bool.or_false], by simp (disch := first | assumption | omega | (simp only [push_n, set_n]; done) | (simp only [push_n, set_n]; omega) | fail) only [go_sem, ↓reduceIte, Nat.reduceEqDiff, Nat.reduceAdd, Nat.reduceMul, Int.reduceToNat, Int.reduceAdd, Int.reduceTDiv, Nat.reduceLeDiff], rfl, Ext.refl _⟩
      clear c1 c5 c6 c7 c8 c9 c10 c12 c13 c14 c15 cm
      rintro m a3 h10 ⟨k, rfl, hkl, c1, c5, c6, c7, c8, c10, c12, c13, c14, c16, cm, x10⟩
      have n_x10 := Ext.n_le x10; try simp only [push_n, set_n] at n_x10
      rw [a1] at c1
      rw [a5] at c5
      rw [a6] at c6
      rw [a7] at c7
      by_cases hkn : k < cs.length
      · obtain ⟨ck, hck⟩ : ∃ ck, cs[k]? = some ck := ⟨_, List.getElem?_eq_getElem hkn⟩
        have hne : cs ≠ [] := by intro e; subst e; simp at hkn
        have hany := any_take (p := roomB n) hck
        have hckok := hokc ck (List.mem_of_getElem? hck)
        have hD8 : D8 < h9.n + 1 := by have := p8 (by simpa using hne); omega
        have gr := (x10.2 D8 (by (first | omega | (simp only [push_n, set_n]; done) | (simp only [push_n, set_n]; omega)))).trans (g8' hne)
        have hp1 := getAt_map (f := Ck.cells) (s := 5) (fun _ => rfl) hck
        have hA : (rows.any (rowB n) || (cs.take (k + 1)).any (roomB n)) = ((rows.any (rowB n) || (cs.take k).any (roomB n)) || roomB n ck) := by rw [hany, Bool.or_assoc]
        cases hb14 : (rows.any (rowB n) || (cs.take k).any (roomB n)) with
        | true =>
          rw [hb14] at c14 hA
          simp (disch := first | assumption | omega | (simp only [push_n, set_n]; done) | (simp only [push_n, set_n]; omega) | fail) only [go_sem, ↓reduceIte, Nat.reduceEqDiff, Nat.reduceAdd, Nat.reduceMul, Int.reduceToNat, Int.reduceAdd, Int.reduceTDiv, Nat.reduceLeDiff, c1, c5, c6, c7, c8, c10, c12, c13, c14, c16, cm, gr, hp1]
          exact ⟨_, Nat.sub_lt_sub_left hkn (Nat.lt_succ_self k), k + 1, rfl, by omega, a1.symm, a5.symm, a6.symm, a7.symm, by rw [hA, Bool.true_or], rfl, by repeat (first | assumption | exact Ext.refl _ | refine Ext.push ?_ | refine Ext.set ?_ (by omega) | refine Ext.trans ?_ (by assumption))⟩
        | false =>
          rw [hb14] at c14 hA
          rw [Bool.false_or] at hA
          simp (disch := first | assumption | omega | (simp only [push_n, set_n]; done) | (simp only [push_n, set_n]; omega) | fail) only [go_sem, ↓reduceIte, Nat.reduceEqDiff, Nat.reduceAdd, Nat.reduceMul, Int.reduceToNat, Int.reduceAdd, Int.reduceTDiv, Nat.reduceLeDiff, c1, c5, c6, c7, c8, c10, c12, c13, c14, c16, cm, gr, hp1]
          refine f19_spec hn7 ?_
          by_cases hcl : n ≤ 14
          · obtain ⟨kc, hkc⟩ : ∃ kc : Nat, clsI n = kc := ⟨(clsI n).toNat, by have := clsI_small hcl; omega⟩
            rw [hkc]
            cases ck with
            | run k' bb =>
              have hk3 : k' < 3 := hckok.1
              simp (disch := first | assumption | omega | (simp only [push_n, set_n]; done) | (simp only [push_n, set_n]; omega) | fail) only [go_sem, ↓reduceIte, Nat.reduceEqDiff, Nat.reduceAdd, Nat.reduceMul, Int.reduceToNat, Int.reduceAdd, Int.reduceTDiv, Nat.reduceLeDiff, c1, c5, c6, c7, c8, c10, c12, c13, c14, c16, cm, gr, hp1, Ck.kind, Ck.cls]
              refine f19_spec hn7 ?_
              rw [hkc]
              by_cases hkk : k' = kc
              · subst hkk
                simp (disch := first | assumption | omega | (simp only [push_n, set_n]; done) | (simp only [push_n, set_n]; omega) | fail) only [go_sem, ↓reduceIte, Nat.reduceEqDiff, Nat.reduceAdd, Nat.reduceMul, Int.reduceToNat, Int.reduceAdd, Int.reduceTDiv, Nat.reduceLeDiff, c1, c5, c6, c7, c8, c10, c12, c13, c14, c16, cm, gr, hp1, Ck.kind, Ck.cls]
                refine f20_spec hk3 ?_
                have hm8 := many_pos k' hk3
                by_cases hful : bb = 1#64 <<< manyOf k' - 1#64
                · have hrb : roomB n (.run k' bb) = false := by unfold roomB; simp [Ck.kind, Ck.cls, Ck.bits, hful]
                  simp (disch := first | assumption | omega | (simp only [push_n, set_n]; done) | (simp only [push_n, set_n]; omega) | fail) only [go_sem, ↓reduceIte, Nat.reduceEqDiff, Nat.reduceAdd, Nat.reduceMul, Int.reduceToNat, Int.reduceAdd, Int.reduceTDiv, Nat.reduceLeDiff, c1, c5, c6, c7, c8, c10, c12, c13, c14, c16, cm, gr, hp1, Ck.kind, Ck.cls, Ck.bits, hful]
                  exact ⟨_, Nat.sub_lt_sub_left hkn (Nat.lt_succ_self k), k + 1, rfl, by omega, a1.symm, a5.symm, a6.symm, a7.symm, by rw [hA, hrb], rfl, by repeat (first | assumption | exact Ext.refl _ | refine Ext.push ?_ | refine Ext.set ?_ (by omega) | refine Ext.trans ?_ (by assumption))⟩
                · have hrb : roomB n (.run k' bb) = true := by unfold roomB; simp [Ck.kind, Ck.cls, Ck.bits, hful, hkc]
                  simp (disch := first | assumption | omega | (simp only [push_n, set_n]; done) | (simp only [push_n, set_n]; omega) | fail) only [go_sem, ↓reduceIte, Nat.reduceEqDiff, Nat.reduceAdd, Nat.reduceMul, Int.reduceToNat, Int.reduceAdd, Int.reduceTDiv, Nat.reduceLeDiff, c1, c5, c6, c7, c8, c10, c12, c13, c14, c16, cm, gr, hp1, Ck.kind, Ck.cls, Ck.bits, hful]
                  exact ⟨_, Nat.sub_lt_sub_left hkn (Nat.lt_succ_self k), k + 1, rfl, by omega, a1.symm, a5.symm, a6.symm, a7.symm, by rw [hA, hrb], rfl, by repeat (first | assumption | exact Ext.refl _ | refine Ext.push ?_ | refine Ext.set ?_ (by omega) | refine Ext.trans ?_ (by assumption))⟩
              · have hrb : roomB n (.run k' bb) = false := by
                  unfold roomB; rw [hkc]; simp [Ck.kind, Ck.cls]
                  intro e; exact (hkk (by omega)).elim
                simp (disch := first | assumption | omega | (simp only [push_n, set_n]; done) | (simp only [push_n, set_n]; omega) | fail) only [go_sem, ↓reduceIte, Nat.reduceEqDiff, Nat.reduceAdd, Nat.reduceMul, Int.reduceToNat, Int.reduceAdd, Int.reduceTDiv, Nat.reduceLeDiff, c1, c5, c6, c7, c8, c10, c12, c13, c14, c16, cm, gr, hp1, Ck.kind, Ck.cls]
                exact ⟨_, Nat.sub_lt_sub_left hkn (Nat.lt_succ_self k), k + 1, rfl, by omega, a1.symm, a5.symm, a6.symm, a7.symm, by rw [hA, hrb], rfl, by repeat (first | assumption | exact Ext.refl _ | refine Ext.push ?_ | refine Ext.set ?_ (by omega) | refine Ext.trans ?_ (by assumption))⟩
            | free =>
              simp (disch := first | assumption | omega | (simp only [push_n, set_n]; done) | (simp only [push_n, set_n]; omega) | fail) only [go_sem, ↓reduceIte, Nat.reduceEqDiff, Nat.reduceAdd, Nat.reduceMul, Int.reduceToNat, Int.reduceAdd, Int.reduceTDiv, Nat.reduceLeDiff, c1, c5, c6, c7, c8, c10, c12, c13, c14, c16, cm, gr, hp1, Ck.kind]
              have hrb : roomB n Ck.free = false := by unfold roomB; simp [Ck.kind]
              exact ⟨_, Nat.sub_lt_sub_left hkn (Nat.lt_succ_self k), k + 1, rfl, by omega, a1.symm, a5.symm, a6.symm, a7.symm, by rw [hA, hrb], rfl, by repeat (first | assumption | exact Ext.refl _ | refine Ext.push ?_ | refine Ext.set ?_ (by omega) | refine Ext.trans ?_ (by assumption))⟩
            | tail =>
              simp (disch := first | assumption | omega | (simp only [push_n, set_n]; done) | (simp only [push_n, set_n]; omega) | fail) only [go_sem, ↓reduceIte, Nat.reduceEqDiff, Nat.reduceAdd, Nat.reduceMul, Int.reduceToNat, Int.reduceAdd, Int.reduceTDiv, Nat.reduceLeDiff, c1, c5, c6, c7, c8, c10, c12, c13, c14, c16, cm, gr, hp1, Ck.kind]
              have hrb : roomB n Ck.tail = false := by unfold roomB; simp [Ck.kind]
              exact ⟨_, Nat.sub_lt_sub_left hkn (Nat.lt_succ_self k), k + 1, rfl, by omega, a1.symm, a5.symm, a6.symm, a7.symm, by rw [hA, hrb], rfl, by repeat (first | assumption | exact Ext.refl _ | refine Ext.push ?_ | refine Ext.set ?_ (by omega) | refine Ext.trans ?_ (by assumption))⟩
            | huge n' =>
              simp (disch := first | assumption | omega | (simp only [push_n, set_n]; done) | (simp only [push_n, set_n]; omega) | fail) only [go_sem, ↓reduceIte, Nat.reduceEqDiff, Nat.reduceAdd, Nat.reduceMul, Int.reduceToNat, Int.reduceAdd, Int.reduceTDiv, Nat.reduceLeDiff, c1, c5, c6, c7, c8, c10, c12, c13, c14, c16, cm, gr, hp1, Ck.kind]
              have hrb : roomB n (Ck.huge n') = false := by unfold roomB; simp [Ck.kind]
              exact ⟨_, Nat.sub_lt_sub_left hkn (Nat.lt_succ_self k), k + 1, rfl, by omega, a1.symm, a5.symm, a6.symm, a7.symm, by rw [hA, hrb], rfl, by repeat (first | assumption | exact Ext.refl _ | refine Ext.push ?_ | refine Ext.set ?_ (by omega) | refine Ext.trans ?_ (by assumption))⟩
            | log l'' n' =>
              simp (disch := first | assumption | omega | (simp only [push_n, set_n]; done) | (simp only [push_n, set_n]; omega) | fail) only [go_sem, ↓reduceIte, Nat.reduceEqDiff, Nat.reduceAdd, Nat.reduceMul, Int.reduceToNat, Int.reduceAdd, Int.reduceTDiv, Nat.reduceLeDiff, c1, c5, c6, c7, c8, c10, c12, c13, c14, c16, cm, gr, hp1, Ck.kind]
              have hrb : roomB n (Ck.log l'' n') = false := by unfold roomB; simp [Ck.kind]
              exact ⟨_, Nat.sub_lt_sub_left hkn (Nat.lt_succ_self k), k + 1, rfl, by omega, a1.symm, a5.symm, a6.symm, a7.symm, by rw [hA, hrb], rfl, by repeat (first | assumption | exact Ext.refl _ | refine Ext.push ?_ | refine Ext.set ?_ (by omega) | refine Ext.trans ?_ (by assumption))⟩
          · rw [clsI_large hcl]
            simp (disch := first | assumption | omega | (simp only [push_n, set_n]; done) | (simp only [push_n, set_n]; omega) | fail) only [go_sem, ↓reduceIte, Nat.reduceEqDiff, Nat.reduceAdd, Nat.reduceMul, Int.reduceToNat, Int.reduceAdd, Int.reduceTDiv, Nat.reduceLeDiff, c1, c5, c6, c7, c8, c10, c12, c13, c14, c16, cm, gr, hp1]
            have hrb : roomB n ck = false := by unfold roomB; rw [clsI_large hcl]; simp
            exact ⟨_, Nat.sub_lt_sub_left hkn (Nat.lt_succ_self k), k + 1, rfl, by omega, a1.symm, a5.symm, a6.symm, a7.symm, by rw [hA, hrb], rfl, by repeat (first | assumption | exact Ext.refl _ | refine Ext.push ?_ | refine Ext.set ?_ (by omega) | refine Ext.trans ?_ (by assumption))⟩
      · obtain rfl : k = cs.length := by omega
        rw [List.take_length, hw] at c14
        have g12 := x10.2 h9.n (by (first | omega | (simp only [push_n, set_n]; done) | (simp only [push_n, set_n]; omega)))
        rw [get_push_eq rfl] at g12
        rcases hk with ⟨rfl, l2, hkeep, cl2, nl2, nl'⟩ | ⟨rfl, rfl⟩
        · simp (disch := first | assumption | omega | (simp only [push_n, set_n]; done) | (simp only [push_n, set_n]; omega) | fail) only [go_sem, ↓reduceIte, Nat.reduceEqDiff, Nat.reduceAdd, Nat.reduceMul, Int.reduceToNat, Int.reduceAdd, Int.reduceTDiv, Nat.reduceLeDiff, c1, c5, c6, c7, c8, c10, c12, c13, c14, c16, cm, g12, Pl.cells]
          refine f13_spec (p := ⟨pc, pi, pk, pm, pf⟩) (l := l') (xb := xb) (lb := lb) ((b9.ext (by repeat (first | assumption | exact Ext.refl _ | refine Ext.push ?_ | refine Ext.set ?_ (by omega) | refine Ext.trans ?_ (by assumption)))).ext x10) ((i9.ext (by repeat (first | assumption | exact Ext.refl _ | refine Ext.push ?_ | refine Ext.set ?_ (by omega) | refine Ext.trans ?_ (by assumption)))).ext x10) (by omega) ?_
          rw [hkeep]
          intro h11 u11 i11
          change IX h11 xb lb l2 at i11
          have r10 : RS h10 1 sv (ss.map u16C) := ((rs_upd (r4.mono x48) u9 hvl).mono (Ext.push (Ext.refl _))).mono x10
          simp (disch := first | assumption | omega | (simp only [push_n, set_n]; done) | (simp only [push_n, set_n]; omega) | fail) only [go_sem, ↓reduceIte, Nat.reduceEqDiff, Nat.reduceAdd, Nat.reduceMul, Int.reduceToNat, Int.reduceAdd, Int.reduceTDiv, Nat.reduceLeDiff, c1, c5, c6, c7, c8, c10, c12, c13, c14, c16, cm, okM]
          refine ⟨_, Nat.sub_lt_sub_left hin (Nat.lt_succ_self i), i + 1, l2, rfl, by omega, hv.symm, rfl, ((b9.ext (h' := h9.push _) (by repeat (first | assumption | exact Ext.refl _ | refine Ext.push ?_ | refine Ext.set ?_ (by omega) | refine Ext.trans ?_ (by assumption)))).ext x10).upd u11 hlb0, rs_upd r10 u11 hvl, i11, cl2, by omega⟩
        · simp (disch := first | assumption | omega | (simp only [push_n, set_n]; done) | (simp only [push_n, set_n]; omega) | fail) only [go_sem, ↓reduceIte, Nat.reduceEqDiff, Nat.reduceAdd, Nat.reduceMul, Int.reduceToNat, Int.reduceAdd, Int.reduceTDiv, Nat.reduceLeDiff, c1, c5, c6, c7, c8, c10, c12, c13, c14, c16, cm, g12, Pl.cells]
          have r10 : RS h10 1 sv (ss.map u16C) := ((rs_upd (r4.mono x48) u9 hvl).mono (Ext.push (Ext.refl _))).mono x10
          refine ⟨_, Nat.sub_lt_sub_left hin (Nat.lt_succ_self i), i + 1, l', rfl, by omega, hv.symm, rfl, (b9.ext (h' := h9.push _) (by repeat (first | assumption | exact Ext.refl _ | refine Ext.push ?_ | refine Ext.set ?_ (by omega) | refine Ext.trans ?_ (by assumption)))).ext x10, r10, (i9.ext (h' := h9.push _) (by repeat (first | assumption | exact Ext.refl _ | refine Ext.push ?_ | refine Ext.set ?_ (by omega) | refine Ext.trans ?_ (by assumption)))).ext x10, c4, by omega⟩
  · obtain rfl : i = ss.length := by omega
    simp (disch := first | assumption | omega | (simp only [push_n, set_n]; done) | (simp only [push_n, set_n]; omega) | fail) only [go_sem, ↓reduceIte, Nat.reduceEqDiff, Nat.reduceAdd, Nat.reduceMul, Int.reduceToNat, Int.reduceAdd, Int.reduceTDiv, Nat.reduceLeDiff, ls, a1, a5, a6, a7, am]
    exact q _
end Go.Am.YtdcppkhobfbpeaaDoor
