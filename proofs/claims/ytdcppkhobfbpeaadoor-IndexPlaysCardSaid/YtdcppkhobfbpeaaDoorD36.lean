/-
  The document's index: its table, walked.
-/
import Derived.Test.YtdcppkhobfbpeaaDoorD35
set_option linter.unusedVariables false
set_option linter.unusedSimpArgs false
namespace Go.Am.YtdcppkhobfbpeaaDoor
open Go Go.Am Go.Proofs

set_option maxHeartbeats 1000000 in
theorem f33_spec {h : Heap} {Q : Value → Heap → Prop} {yb lb : Nat} {l : List One} (hi : YX h yb lb l) (ht : ∀ o ∈ l, Tidy o) (hr : rightAux 0 (l.map One.c) = true) (hn : l.length ≤ 1000)
    (q : ∀ v h', Ext h h' → OS h' 45 1 h.n v ((tableM l).map Ck.word) → Q v h') : WC T (.func (.func 33) #[] #[]) [.pointer (some ⟨yb, 0, none⟩)] h Q := by
  refine WC_fn T33 rfl ?_
  have n16777216 : (16777216#64 : BitVec 64) ≠ 0#64 := by decide
  have htl : (tableM l).length = l.length := by
    have : ∀ (l : List One) (left : Nat), (tableAux left l).length = l.length := fun l => by
      induction l with
      | nil => intro _; rfl
      | cons o r ih => intro left; unfold tableAux; rw [List.length_cons, ih, List.length_cons]
    exact this l 0
  simp (disch := first | assumption | omega | (simp only [push_n, set_n]; done) | (simp only [push_n, set_n]; omega) | fail) only [go_sem, ↓reduceIte, Nat.reduceEqDiff, Nat.reduceAdd, Nat.reduceMul, Int.reduceToNat, Int.reduceAdd, Int.reduceTDiv, Nat.reduceLeDiff, ir33]
  refine WE_loop (fun m a h' => ∃ (i : Nat) (v : Value), m = l.length - i ∧ i ≤ l.length ∧ a.get 0 = .pointer (some ⟨yb, 0, none⟩) ∧ a.get 3 = v ∧ a.get 4 = .int .i64 i ∧ a.marks = [] ∧ Ext h h' ∧ OS h' 45 1 h.n v (((tableM l).take i).map Ck.word)) ?_ (m := l.length) ⟨0, .slice none 0 0, by omega, by omega, by simp (disch := first | assumption | omega | (simp only [push_n, set_n]; done) | (simp only [push_n, set_n]; omega) | fail) only [go_sem, ↓reduceIte, Nat.reduceEqDiff, Nat.reduceAdd, Nat.reduceMul, Int.reduceToNat, Int.reduceAdd, Int.reduceTDiv, Nat.reduceLeDiff], by simp (disch := first | assumption | omega | (simp only [push_n, set_n]; done) | (simp only [push_n, set_n]; omega) | fail) only [go_sem, ↓reduceIte, Nat.reduceEqDiff, Nat.reduceAdd, Nat.reduceMul, Int.reduceToNat, Int.reduceAdd, Int.reduceTDiv, Nat.reduceLeDiff], by simp (disch := first | assumption | omega | (simp only [push_n, set_n]; done) | (simp only [push_n, set_n]; omega) | fail) only [go_sem, ↓reduceIte, Nat.reduceEqDiff, Nat.reduceAdd, Nat.reduceMul, Int.reduceToNat, Int.reduceAdd, Int.reduceTDiv, Nat.reduceLeDiff], rfl, Ext.refl _, OS.nil⟩
  rintro m a h1 ⟨i, v, rfl, hil, a0, a3, a4, am, hx, ho⟩
  have n_hx := Ext.n_le hx; try simp only [push_n, set_n] at n_hx
  have iy := (hi.ext hx).y
  by_cases hin : i < l.length
  · obtain ⟨o, hoi⟩ : ∃ o, l[i]? = some o := ⟨_, List.getElem?_eq_getElem hin⟩
    have hto := ht o (List.mem_of_getElem? hoi)
    have hne : l ≠ [] := by intro e; subst e; simp at hin
    have il := (hi.ext hx).l hne
    have yn := (hi.ext hx).yn
    have ln := (hi.ext hx).ln
    have hcb := Ck.bounds hto.ok
    have htg := tableM_get hr ht hoi
    have p0 := ref_part hoi 0 5 (by omega)
    rw [Nat.add_zero] at p0
    have pr : getAt o.ref 0 5 = some [.int .i64 o.c.kind, .int .i64 o.c.cls, .int .i64 o.c.lane, .int .i64 o.c.many, ub 0#64] := rfl
    rw [pr] at p0
    simp (disch := first | assumption | omega | (simp only [push_n, set_n]; done) | (simp only [push_n, set_n]; omega) | fail) only [go_sem, ↓reduceIte, Nat.reduceEqDiff, Nat.reduceAdd, Nat.reduceMul, Int.reduceToNat, Int.reduceAdd, Int.reduceTDiv, Nat.reduceLeDiff, a0, a3, a4, am, iy, il, p0]
    refine WE_loop (fun m a' h' => ∃ k : Nat, m = 8 - k ∧ k ≤ 8 ∧ a'.get 0 = .pointer (some ⟨yb, 0, none⟩) ∧ a'.get 3 = v ∧ a'.get 4 = .int .i64 i ∧ a'.get 5 = .pointer (some ⟨h1.n, 0, none⟩) ∧ a'.get 6 = .int .i64 k ∧ a'.marks = [] ∧ h'.n = h1.n + 1 ∧ (∀ j, j < h1.n → h'.get j = h1.get j) ∧
      h'.get h1.n = .cells [.int .i64 o.c.kind, .int .i64 o.c.cls, .int .i64 o.c.lane, .int .i64 o.c.many, ub (lowB o.c.bits k)] 47 false) ?_ (m := 8)
      ⟨0, by omega, by omega, by simp (disch := first | assumption | omega | (simp only [push_n, set_n]; done) | (simp only [push_n, set_n]; omega) | fail) only [go_sem, ↓reduceIte, Nat.reduceEqDiff, Nat.reduceAdd, Nat.reduceMul, Int.reduceToNat, Int.reduceAdd, Int.reduceTDiv, Nat.reduceLeDiff, a0], by simp (disch := first | assumption | omega | (simp only [push_n, set_n]; done) | (simp only [push_n, set_n]; omega) | fail) only [go_sem, ↓reduceIte, Nat.reduceEqDiff, Nat.reduceAdd, Nat.reduceMul, Int.reduceToNat, Int.reduceAdd, Int.reduceTDiv, Nat.reduceLeDiff, a3], by simp (disch := first | assumption | omega | (simp only [push_n, set_n]; done) | (simp only [push_n, set_n]; omega) | fail) only [go_sem, ↓reduceIte, Nat.reduceEqDiff, Nat.reduceAdd, Nat.reduceMul, Int.reduceToNat, Int.reduceAdd, Int.reduceTDiv, Nat.reduceLeDiff, a4], by simp (disch := first | assumption | omega | (simp only [push_n, set_n]; done) | (simp only [push_n, set_n]; omega) | fail) only [go_sem, ↓reduceIte, Nat.reduceEqDiff, Nat.reduceAdd, Nat.reduceMul, Int.reduceToNat, Int.reduceAdd, Int.reduceTDiv, Nat.reduceLeDiff], by simp (disch := first | assumption | omega | (simp only [push_n, set_n]; done) | (simp only [push_n, set_n]; omega) | fail) only [go_sem, ↓reduceIte, Nat.reduceEqDiff, Nat.reduceAdd, Nat.reduceMul, Int.reduceToNat, Int.reduceAdd, Int.reduceTDiv, Nat.reduceLeDiff], rfl, by simp (disch := first | assumption | omega | (simp only [push_n, set_n]; done) | (simp only [push_n, set_n]; omega) | fail) only [go_sem, ↓reduceIte, Nat.reduceEqDiff, Nat.reduceAdd, Nat.reduceMul, Int.reduceToNat, Int.reduceAdd, Int.reduceTDiv, Nat.reduceLeDiff], fun j hj => get_push_lt hj, by rw [lowB_0]; exact get_push_eq rfl⟩
    rintro m a2 h2 ⟨k, rfl, hk, c0, c3, c4, c5, c6, cm, n2, g2, gc⟩
    have iy2 := (g2 yb yn).trans iy
    have il2 := (g2 lb ln).trans il
    by_cases hk8 : k < 8
    · have pk := ref_part hoi (5 + k) 1 (by omega)
      rw [ref_blk hk8, ← Nat.add_assoc] at pk
      have hb1 := @blk_one o k
      cases hbit : o.c.bits.getLsbD k with
      | true =>
        rw [hbit] at hb1
        have hb1' := of_decide_eq_true hb1
        rw [hb1'] at pk
        simp (disch := first | assumption | omega | (simp only [push_n, set_n]; done) | (simp only [push_n, set_n]; omega) | fail) only [go_sem, ↓reduceIte, Nat.reduceEqDiff, Nat.reduceAdd, Nat.reduceMul, Int.reduceToNat, Int.reduceAdd, Int.reduceTDiv, Nat.reduceLeDiff, c0, c3, c4, c5, c6, cm, iy2, il2, pk, gc]
        refine f59_spec hk8 ?_
        simp (disch := first | assumption | omega | (simp only [push_n, set_n]; done) | (simp only [push_n, set_n]; omega) | fail) only [go_sem, ↓reduceIte, Nat.reduceEqDiff, Nat.reduceAdd, Nat.reduceMul, Int.reduceToNat, Int.reduceAdd, Int.reduceTDiv, Nat.reduceLeDiff, c0, c3, c4, c5, c6, cm, gc, bit_quo hk8, lowB_true hbit]
        exact ⟨_, Nat.sub_lt_sub_left hk8 (Nat.lt_succ_self k), k + 1, rfl, by omega, rfl, n2, fun j hj => by simp (disch := first | assumption | omega | (simp only [push_n, set_n]; done) | (simp only [push_n, set_n]; omega) | fail) only [go_sem, ↓reduceIte, Nat.reduceEqDiff, Nat.reduceAdd, Nat.reduceMul, Int.reduceToNat, Int.reduceAdd, Int.reduceTDiv, Nat.reduceLeDiff, g2], rfl⟩
      | false =>
        rw [hbit] at hb1
        have hb1' := of_decide_eq_false hb1
        simp (disch := first | assumption | omega | (simp only [push_n, set_n]; done) | (simp only [push_n, set_n]; omega) | fail) only [go_sem, ↓reduceIte, Nat.reduceEqDiff, Nat.reduceAdd, Nat.reduceMul, Int.reduceToNat, Int.reduceAdd, Int.reduceTDiv, Nat.reduceLeDiff, c0, c3, c4, c5, c6, cm, iy2, il2, pk]
        exact ⟨_, Nat.sub_lt_sub_left hk8 (Nat.lt_succ_self k), k + 1, rfl, by omega, rfl, n2, g2, by rw [lowB_false hbit]; exact gc⟩
    · obtain rfl : k = 8 := by omega
      rw [lowB_8 hcb.2.2.2.2] at gc
      simp (disch := first | assumption | omega | (simp only [push_n, set_n]; done) | (simp only [push_n, set_n]; omega) | fail) only [go_sem, ↓reduceIte, Nat.reduceEqDiff, Nat.reduceAdd, Nat.reduceMul, Int.reduceToNat, Int.reduceAdd, Int.reduceTDiv, Nat.reduceLeDiff, c0, c3, c4, c5, c6, cm]
      refine WE_loop (fun m a' h' => ∃ k : Nat, m = i + 1 - k ∧ k ≤ i + 1 ∧ a'.get 0 = .pointer (some ⟨yb, 0, none⟩) ∧ a'.get 3 = v ∧ a'.get 4 = .int .i64 i ∧ a'.get 5 = .pointer (some ⟨h1.n, 0, none⟩) ∧ a'.get 7 = .int .i64 k ∧ a'.marks = [] ∧ h'.n = h1.n + 1 ∧ (∀ j, j < h1.n → h'.get j = h1.get j) ∧
        h'.get h1.n = .cells (if covTo l i k then Ck.free else o.c).cells 47 false) ?_ (m := i + 1)
        ⟨0, by omega, by omega, by simp (disch := first | assumption | omega | (simp only [push_n, set_n]; done) | (simp only [push_n, set_n]; omega) | fail) only [go_sem, ↓reduceIte, Nat.reduceEqDiff, Nat.reduceAdd, Nat.reduceMul, Int.reduceToNat, Int.reduceAdd, Int.reduceTDiv, Nat.reduceLeDiff, c0], by simp (disch := first | assumption | omega | (simp only [push_n, set_n]; done) | (simp only [push_n, set_n]; omega) | fail) only [go_sem, ↓reduceIte, Nat.reduceEqDiff, Nat.reduceAdd, Nat.reduceMul, Int.reduceToNat, Int.reduceAdd, Int.reduceTDiv, Nat.reduceLeDiff, c3], by simp (disch := first | assumption | omega | (simp only [push_n, set_n]; done) | (simp only [push_n, set_n]; omega) | fail) only [go_sem, ↓reduceIte, Nat.reduceEqDiff, Nat.reduceAdd, Nat.reduceMul, Int.reduceToNat, Int.reduceAdd, Int.reduceTDiv, Nat.reduceLeDiff, c4], by simp (disch := first | assumption | omega | (simp only [push_n, set_n]; done) | (simp only [push_n, set_n]; omega) | fail) only [go_sem, ↓reduceIte, Nat.reduceEqDiff, Nat.reduceAdd, Nat.reduceMul, Int.reduceToNat, Int.reduceAdd, Int.reduceTDiv, Nat.reduceLeDiff, c5], by simp (disch := first | assumption | omega | (simp only [push_n, set_n]; done) | (simp only [push_n, set_n]; omega) | fail) only [go_sem, ↓reduceIte, Nat.reduceEqDiff, Nat.reduceAdd, Nat.reduceMul, Int.reduceToNat, Int.reduceAdd, Int.reduceTDiv, Nat.reduceLeDiff], rfl, n2, g2, gc⟩
      clear c0 c3 c4 c5 c6 cm
      rintro m a3 h3 ⟨k, rfl, hk, c0, c3, c4, c5, c7, cm, n3, g3, gc3⟩
      have iy3 := (g3 yb yn).trans iy
      have il3 := (g3 lb ln).trans il
      by_cases hki : k ≤ i
      · obtain ⟨o2, ho2⟩ : ∃ o, l[k]? = some o := ⟨_, List.getElem?_eq_getElem (by omega)⟩
        have hcs := covTo_succ (i := i) ho2
        have p13 := ref_part ho2 13 1 (by omega)
        rw [show getAt o2.ref 13 1 = some [.bool o2.tkn] from rfl] at p13
        have p3 := ref_part ho2 3 1 (by omega)
        rw [show getAt o2.ref 3 1 = some [.int .i64 o2.c.many] from rfl] at p3
        have hmb := (Ck.bounds (ht o2 (List.mem_of_getElem? ho2)).ok).2.2.2.1
        cases htk : o2.tkn with
        | false =>
          rw [htk] at p13 hcs
          rw [Bool.false_and, Bool.or_false] at hcs
          simp (disch := first | assumption | omega | (simp only [push_n, set_n]; done) | (simp only [push_n, set_n]; omega) | fail) only [go_sem, ↓reduceIte, Nat.reduceEqDiff, Nat.reduceAdd, Nat.reduceMul, Int.reduceToNat, Int.reduceAdd, Int.reduceTDiv, Nat.reduceLeDiff, c0, c3, c4, c5, c7, cm, iy3, il3, p13]
          exact ⟨_, Nat.sub_lt_sub_left (show k < i + 1 by omega) (Nat.lt_succ_self k), k + 1, rfl, by omega, rfl, n3, g3, by rw [hcs]; exact gc3⟩
        | true =>
          rw [htk] at p13 hcs
          by_cases hcv : i < k + o2.c.many
          · rw [decide_eq_true hcv, Bool.true_and, Bool.or_true] at hcs
            simp (disch := first | assumption | omega | (simp only [push_n, set_n]; done) | (simp only [push_n, set_n]; omega) | fail) only [go_sem, ↓reduceIte, Nat.reduceEqDiff, Nat.reduceAdd, Nat.reduceMul, Int.reduceToNat, Int.reduceAdd, Int.reduceTDiv, Nat.reduceLeDiff, c0, c3, c4, c5, c7, cm, iy3, il3, p13, p3, gc3]
            refine ⟨_, Nat.sub_lt_sub_left (show k < i + 1 by omega) (Nat.lt_succ_self k), k + 1, rfl, by omega, rfl, n3, fun j hj => by simp (disch := first | assumption | omega | (simp only [push_n, set_n]; done) | (simp only [push_n, set_n]; omega) | fail) only [go_sem, ↓reduceIte, Nat.reduceEqDiff, Nat.reduceAdd, Nat.reduceMul, Int.reduceToNat, Int.reduceAdd, Int.reduceTDiv, Nat.reduceLeDiff, g3], ?_⟩
            rw [hcs]
            rfl
          · rw [decide_eq_false hcv, Bool.and_false, Bool.or_false] at hcs
            simp (disch := first | assumption | omega | (simp only [push_n, set_n]; done) | (simp only [push_n, set_n]; omega) | fail) only [go_sem, ↓reduceIte, Nat.reduceEqDiff, Nat.reduceAdd, Nat.reduceMul, Int.reduceToNat, Int.reduceAdd, Int.reduceTDiv, Nat.reduceLeDiff, c0, c3, c4, c5, c7, cm, iy3, il3, p13, p3]
            exact ⟨_, Nat.sub_lt_sub_left (show k < i + 1 by omega) (Nat.lt_succ_self k), k + 1, rfl, by omega, rfl, n3, g3, by rw [hcs]; exact gc3⟩
      · obtain rfl : k = i + 1 := by omega
        generalize hcc : (if covTo l i (i + 1) then Ck.free else o.c) = c at *
        have hcok : c.ok := by rw [← hcc]; split; trivial; exact hto.ok
        have x13 : Ext h1 h3 := ⟨by omega, g3⟩
        simp (disch := first | assumption | omega | (simp only [push_n, set_n]; done) | (simp only [push_n, set_n]; omega) | fail) only [go_sem, ↓reduceIte, Nat.reduceEqDiff, Nat.reduceAdd, Nat.reduceMul, Int.reduceToNat, Int.reduceAdd, Int.reduceTDiv, Nat.reduceLeDiff, c0, c3, c4, c5, c7, cm, gc3]
        refine f41_spec hcok fun h4 x4 => ?_
        have n_x4 := Ext.n_le x4; try simp only [push_n, set_n] at n_x4
        obtain ⟨v', h5, e1, o5, x5, n5, g5, vc⟩ := OS.app_ext (h := h4.push (.cells c.word 45 false)) (B := h4.n) (bytes := 8) (by repeat (first | assumption | exact Ext.refl _ | refine Ext.push ?_ | refine Ext.set ?_ (by omega) | refine Ext.trans ?_ (by assumption))) ((ho.ext (h' := h4) (by repeat (first | assumption | exact Ext.refl _ | refine Ext.push ?_ | refine Ext.set ?_ (by omega) | refine Ext.trans ?_ (by assumption)))).ext (by repeat (first | assumption | exact Ext.refl _ | refine Ext.push ?_ | refine Ext.set ?_ (by omega) | refine Ext.trans ?_ (by assumption)))) (get_push_eq rfl) rfl (by decide) (by simp; omega)
        unfold Ck.word at e1
        simp (disch := first | assumption | omega | (simp only [push_n, set_n]; done) | (simp only [push_n, set_n]; omega) | fail) only [go_sem, ↓reduceIte, Nat.reduceEqDiff, Nat.reduceAdd, Nat.reduceMul, Int.reduceToNat, Int.reduceAdd, Int.reduceTDiv, Nat.reduceLeDiff, c0, c3, c4, c5, c7, cm, e1]
        exact ⟨_, Nat.sub_lt_sub_left hin (Nat.lt_succ_self i), i + 1, v', rfl, by omega, rfl, rfl, x5, by rw [take_succ htg, List.map_append]; exact o5⟩
  · obtain rfl : i = l.length := by omega
    simp (disch := first | assumption | omega | (simp only [push_n, set_n]; done) | (simp only [push_n, set_n]; omega) | fail) only [go_sem, ↓reduceIte, Nat.reduceEqDiff, Nat.reduceAdd, Nat.reduceMul, Int.reduceToNat, Int.reduceAdd, Int.reduceTDiv, Nat.reduceLeDiff, a0, a3, a4, am, iy]
    rw [← htl, List.take_length] at ho
    exact q _ _ hx ho
end Go.Am.YtdcppkhobfbpeaaDoor
