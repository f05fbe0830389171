/-
  The rows that can be had.
-/
import Derived.Test.YtdcppkhobfbpeaaDoorD5
set_option linter.unusedVariables false
set_option linter.unusedSimpArgs false
namespace Go.Am.YtdcppkhobfbpeaaDoor
open Go Go.Am Go.Proofs

/-- The rows of what is free: 'm' chunks of a row lie right ahead of 'i'. -/
def rowsAux (i m : Nat) : List Bool → List (Nat × Nat)
  | [] => if m = 0 then [] else [(i - m, m)]
  | true :: r => rowsAux (i + 1) (m + 1) r
  | false :: r => if m = 0 then rowsAux (i + 1) 0 r else (i - m, m) :: rowsAux (i + 1) 0 r
def rowsOf (fs : List Bool) : List (Nat × Nat) := rowsAux 0 0 fs
def spanC (p : Nat × Nat) : List Value := [.int .i64 p.1, .int .i64 p.2]
abbrev One.val (o : One) : Value := .agg o.cells.toArray

theorem f60_spec {h : Heap} {Q : Value → Heap → Prop} {o : One} (q : ∀ h', Ext h h' → Q (.bool o.free) h') : WC T (.func (.func 60) #[] #[]) [o.val] h Q := by
  refine WC_fn T60 rfl ?_
  obtain ⟨c, t⟩ := o
  cases c with
  | run k b =>
    simp (disch := first | assumption | omega | (simp only [push_n, set_n]; done) | (simp only [push_n, set_n]; omega) | fail) only [go_sem, ↓reduceIte, Nat.reduceEqDiff, Nat.reduceAdd, Nat.reduceMul, Int.reduceToNat, Int.reduceAdd, Int.reduceTDiv, Nat.reduceLeDiff, ir60, One.cells, Ck.kind, Ck.cls, Ck.lane, Ck.many, Ck.bits]
    refine f49_spec (c := .run k b) fun h1 x1 => ?_
    have n_x1 := Ext.n_le x1; try simp only [push_n, set_n] at n_x1
    by_cases hb : b = 0#64
    · subst hb
      by_cases ht : t = 0#64
      · subst ht
        simp (disch := first | assumption | omega | (simp only [push_n, set_n]; done) | (simp only [push_n, set_n]; omega) | fail) only [go_sem, ↓reduceIte, Nat.reduceEqDiff, Nat.reduceAdd, Nat.reduceMul, Int.reduceToNat, Int.reduceAdd, Int.reduceTDiv, Nat.reduceLeDiff, x1.2, Ck.kind, Ck.bits]
        exact q _ (by repeat (first | assumption | exact Ext.refl _ | refine Ext.push ?_ | refine Ext.set ?_ (by omega) | refine Ext.trans ?_ (by assumption)))
      · have : One.free ⟨.run k 0#64, t⟩ = false := by simp [One.free, ht]
        rw [this] at q
        simp (disch := first | assumption | omega | (simp only [push_n, set_n]; done) | (simp only [push_n, set_n]; omega) | fail) only [go_sem, ↓reduceIte, Nat.reduceEqDiff, Nat.reduceAdd, Nat.reduceMul, Int.reduceToNat, Int.reduceAdd, Int.reduceTDiv, Nat.reduceLeDiff, x1.2, Ck.kind, Ck.bits, ht]
        exact q _ (by repeat (first | assumption | exact Ext.refl _ | refine Ext.push ?_ | refine Ext.set ?_ (by omega) | refine Ext.trans ?_ (by assumption)))
    · have : One.free ⟨.run k b, t⟩ = false := by simp [One.free, hb]
      rw [this] at q
      have hd : decide ((Ck.run k b).kind = 1 ∧ (Ck.run k b).bits = 0#64) = false := by simp [Ck.kind, Ck.bits, hb]
      simp (disch := first | assumption | omega | (simp only [push_n, set_n]; done) | (simp only [push_n, set_n]; omega) | fail) only [go_sem, ↓reduceIte, Nat.reduceEqDiff, Nat.reduceAdd, Nat.reduceMul, Int.reduceToNat, Int.reduceAdd, Int.reduceTDiv, Nat.reduceLeDiff, x1.2, hd]
      exact q _ (by repeat (first | assumption | exact Ext.refl _ | refine Ext.push ?_ | refine Ext.set ?_ (by omega) | refine Ext.trans ?_ (by assumption)))
  | huge n =>
    simp (disch := first | assumption | omega | (simp only [push_n, set_n]; done) | (simp only [push_n, set_n]; omega) | fail) only [go_sem, ↓reduceIte, Nat.reduceEqDiff, Nat.reduceAdd, Nat.reduceMul, Int.reduceToNat, Int.reduceAdd, Int.reduceTDiv, Nat.reduceLeDiff, ir60, One.cells, Ck.kind, Ck.cls, Ck.lane, Ck.many, Ck.bits]
    refine f49_spec (c := .huge n) fun h1 x1 => ?_
    have n_x1 := Ext.n_le x1; try simp only [push_n, set_n] at n_x1
    simp (disch := first | assumption | omega | (simp only [push_n, set_n]; done) | (simp only [push_n, set_n]; omega) | fail) only [go_sem, ↓reduceIte, Nat.reduceEqDiff, Nat.reduceAdd, Nat.reduceMul, Int.reduceToNat, Int.reduceAdd, Int.reduceTDiv, Nat.reduceLeDiff, x1.2, Ck.kind, Ck.bits]
    exact q _ (by repeat (first | assumption | exact Ext.refl _ | refine Ext.push ?_ | refine Ext.set ?_ (by omega) | refine Ext.trans ?_ (by assumption)))
  | log l n =>
    simp (disch := first | assumption | omega | (simp only [push_n, set_n]; done) | (simp only [push_n, set_n]; omega) | fail) only [go_sem, ↓reduceIte, Nat.reduceEqDiff, Nat.reduceAdd, Nat.reduceMul, Int.reduceToNat, Int.reduceAdd, Int.reduceTDiv, Nat.reduceLeDiff, ir60, One.cells, Ck.kind, Ck.cls, Ck.lane, Ck.many, Ck.bits]
    refine f49_spec (c := .log l n) fun h1 x1 => ?_
    have n_x1 := Ext.n_le x1; try simp only [push_n, set_n] at n_x1
    simp (disch := first | assumption | omega | (simp only [push_n, set_n]; done) | (simp only [push_n, set_n]; omega) | fail) only [go_sem, ↓reduceIte, Nat.reduceEqDiff, Nat.reduceAdd, Nat.reduceMul, Int.reduceToNat, Int.reduceAdd, Int.reduceTDiv, Nat.reduceLeDiff, x1.2, Ck.kind, Ck.bits]
    exact q _ (by repeat (first | assumption | exact Ext.refl _ | refine Ext.push ?_ | refine Ext.set ?_ (by omega) | refine Ext.trans ?_ (by assumption)))
  | free =>
    simp (disch := first | assumption | omega | (simp only [push_n, set_n]; done) | (simp only [push_n, set_n]; omega) | fail) only [go_sem, ↓reduceIte, Nat.reduceEqDiff, Nat.reduceAdd, Nat.reduceMul, Int.reduceToNat, Int.reduceAdd, Int.reduceTDiv, Nat.reduceLeDiff, ir60, One.cells, Ck.kind, Ck.cls, Ck.lane, Ck.many, Ck.bits]
    exact q _ (by repeat (first | assumption | exact Ext.refl _ | refine Ext.push ?_ | refine Ext.set ?_ (by omega) | refine Ext.trans ?_ (by assumption)))
  | tail =>
    simp (disch := first | assumption | omega | (simp only [push_n, set_n]; done) | (simp only [push_n, set_n]; omega) | fail) only [go_sem, ↓reduceIte, Nat.reduceEqDiff, Nat.reduceAdd, Nat.reduceMul, Int.reduceToNat, Int.reduceAdd, Int.reduceTDiv, Nat.reduceLeDiff, ir60, One.cells, Ck.kind, Ck.cls, Ck.lane, Ck.many, Ck.bits]
    refine f49_spec (c := .tail) fun h1 x1 => ?_
    have n_x1 := Ext.n_le x1; try simp only [push_n, set_n] at n_x1
    simp (disch := first | assumption | omega | (simp only [push_n, set_n]; done) | (simp only [push_n, set_n]; omega) | fail) only [go_sem, ↓reduceIte, Nat.reduceEqDiff, Nat.reduceAdd, Nat.reduceMul, Int.reduceToNat, Int.reduceAdd, Int.reduceTDiv, Nat.reduceLeDiff, x1.2, Ck.kind, Ck.bits]
    exact q _ (by repeat (first | assumption | exact Ext.refl _ | refine Ext.push ?_ | refine Ext.set ?_ (by omega) | refine Ext.trans ?_ (by assumption)))

def frees (l : List One) : List Bool := l.map One.free
theorem rows_drop_true {fs : List Bool} {i m : Nat} (h : fs[i]? = some true) : rowsAux i m (fs.drop i) = rowsAux (i + 1) (m + 1) (fs.drop (i + 1)) := by
  have hi : i < fs.length := by
    rcases Nat.lt_or_ge i fs.length with h1 | h1
    · exact h1
    · rw [List.getElem?_eq_none h1] at h; cases h
  rw [List.drop_eq_getElem_cons hi]
  rw [List.getElem?_eq_getElem hi] at h
  injection h with h
  rw [h]; rfl
theorem rows_drop_false {fs : List Bool} {i m : Nat} (h : fs[i]? = some false) : rowsAux i m (fs.drop i) = if m = 0 then rowsAux (i + 1) 0 (fs.drop (i + 1)) else (i - m, m) :: rowsAux (i + 1) 0 (fs.drop (i + 1)) := by
  have hi : i < fs.length := by
    rcases Nat.lt_or_ge i fs.length with h1 | h1
    · exact h1
    · rw [List.getElem?_eq_none h1] at h; cases h
  rw [List.drop_eq_getElem_cons hi]
  rw [List.getElem?_eq_getElem hi] at h
  injection h with h
  rw [h]; rfl
theorem rows_drop_end {fs : List Bool} {m : Nat} : rowsAux fs.length m (fs.drop fs.length) = if m = 0 then [] else [(fs.length - m, m)] := by
  rw [List.drop_length]; rfl
theorem rowsAux_length : ∀ (fs : List Bool) (i m : Nat), (rowsAux i m fs).length ≤ fs.length + 1
  | [], i, m => by unfold rowsAux; split <;> simp
  | true :: r, i, m => by unfold rowsAux; have := rowsAux_length r (i + 1) (m + 1); simp; omega
  | false :: r, i, m => by
    unfold rowsAux
    have := rowsAux_length r (i + 1) 0
    split <;> simp <;> omega

theorem f35_spec {h : Heap} {Q : Value → Heap → Prop} {xb lb : Nat} {l : List One} (hi : IX h xb lb l) (hn : l.length ≤ 1000)
    (q : ∀ v h', Ext h h' → OS h' 43 2 h.n v ((rowsOf (frees l)).map spanC) → Q v h') : WC T (.func (.func 35) #[] #[]) [.pointer (some ⟨xb, 0, none⟩)] h Q := by
  refine WC_fn T35 rfl ?_
  simp (disch := first | assumption | omega | (simp only [push_n, set_n]; done) | (simp only [push_n, set_n]; omega) | fail) only [go_sem, ↓reduceIte, Nat.reduceEqDiff, Nat.reduceAdd, Nat.reduceMul, Int.reduceToNat, Int.reduceAdd, Int.reduceTDiv, Nat.reduceLeDiff, ir35]
  refine WE_loop (fun m a h' => ∃ (i : Nat) (v : Value) (out : List (Nat × Nat)), m = l.length - i ∧ i ≤ l.length ∧ a.get 0 = .pointer (some ⟨xb, 0, none⟩) ∧ a.get 3 = v ∧ a.get 4 = .int .i64 i ∧ a.marks = [] ∧ Ext h h' ∧ OS h' 43 2 h.n v (out.map spanC) ∧ rowsOf (frees l) = out ++ rowsAux i 0 ((frees l).drop i)) ?_ (m := l.length) ⟨0, .slice none 0 0, [], by omega, by omega, by simp (disch := first | assumption | omega | (simp only [push_n, set_n]; done) | (simp only [push_n, set_n]; omega) | fail) only [go_sem, ↓reduceIte, Nat.reduceEqDiff, Nat.reduceAdd, Nat.reduceMul, Int.reduceToNat, Int.reduceAdd, Int.reduceTDiv, Nat.reduceLeDiff], by simp (disch := first | assumption | omega | (simp only [push_n, set_n]; done) | (simp only [push_n, set_n]; omega) | fail) only [go_sem, ↓reduceIte, Nat.reduceEqDiff, Nat.reduceAdd, Nat.reduceMul, Int.reduceToNat, Int.reduceAdd, Int.reduceTDiv, Nat.reduceLeDiff], by simp (disch := first | assumption | omega | (simp only [push_n, set_n]; done) | (simp only [push_n, set_n]; omega) | fail) only [go_sem, ↓reduceIte, Nat.reduceEqDiff, Nat.reduceAdd, Nat.reduceMul, Int.reduceToNat, Int.reduceAdd, Int.reduceTDiv, Nat.reduceLeDiff], rfl, Ext.refl _, OS.nil, rfl⟩
  rintro m a h1 ⟨i, v, out, rfl, hk, a0, a3, a4, am, hx, ho, hrows⟩
  have ix := (hi.ext hx).x
  by_cases hkn : i < l.length
  · have hne : l ≠ [] := by intro e; subst e; simp at hkn
    simp (disch := first | assumption | omega | (simp only [push_n, set_n]; done) | (simp only [push_n, set_n]; omega) | fail) only [go_sem, ↓reduceIte, Nat.reduceEqDiff, Nat.reduceAdd, Nat.reduceMul, Int.reduceToNat, Int.reduceAdd, Int.reduceTDiv, Nat.reduceLeDiff, a0, a3, a4, am, ix]
    have hfl : (frees l).length = l.length := by simp [frees]
    have hol : out.length ≤ 1001 := by
      have h1 := congrArg List.length hrows
      have h2 := rowsAux_length (frees l) 0 0
      unfold rowsOf at h1
      rw [List.length_append] at h1
      omega
    refine WE_loop (fun m' a h' => ∃ (j m : Nat), m' = l.length - j ∧ j < l.length ∧ m ≤ j ∧ a.get 0 = .pointer (some ⟨xb, 0, none⟩) ∧ a.get 3 = v ∧ a.get 4 = .int .i64 j ∧ a.get 5 = .pointer (some ⟨h1.n, 0, none⟩) ∧ a.marks = [] ∧ i ≤ j ∧ h1.n + 1 ≤ h'.n ∧ (∀ i, i < h1.n → h'.get i = h1.get i) ∧ h'.get h1.n = .cells [.int .i64 (j - m : Nat), .int .i64 m] 43 false ∧ rowsAux i 0 ((frees l).drop i) = rowsAux j m ((frees l).drop j)) ?_ (m := l.length - i) ⟨i, 0, rfl, hkn, by omega, by simp (disch := first | assumption | omega | (simp only [push_n, set_n]; done) | (simp only [push_n, set_n]; omega) | fail) only [go_sem, ↓reduceIte, Nat.reduceEqDiff, Nat.reduceAdd, Nat.reduceMul, Int.reduceToNat, Int.reduceAdd, Int.reduceTDiv, Nat.reduceLeDiff, a0], by simp (disch := first | assumption | omega | (simp only [push_n, set_n]; done) | (simp only [push_n, set_n]; omega) | fail) only [go_sem, ↓reduceIte, Nat.reduceEqDiff, Nat.reduceAdd, Nat.reduceMul, Int.reduceToNat, Int.reduceAdd, Int.reduceTDiv, Nat.reduceLeDiff, a3], by simp (disch := first | assumption | omega | (simp only [push_n, set_n]; done) | (simp only [push_n, set_n]; omega) | fail) only [go_sem, ↓reduceIte, Nat.reduceEqDiff, Nat.reduceAdd, Nat.reduceMul, Int.reduceToNat, Int.reduceAdd, Int.reduceTDiv, Nat.reduceLeDiff, a4], by simp (disch := first | assumption | omega | (simp only [push_n, set_n]; done) | (simp only [push_n, set_n]; omega) | fail) only [go_sem, ↓reduceIte, Nat.reduceEqDiff, Nat.reduceAdd, Nat.reduceMul, Int.reduceToNat, Int.reduceAdd, Int.reduceTDiv, Nat.reduceLeDiff], rfl, Nat.le_refl _, by (first | omega | (simp only [push_n, set_n]; done) | (simp only [push_n, set_n]; omega)), fun i hi => by simp (disch := first | assumption | omega | (simp only [push_n, set_n]; done) | (simp only [push_n, set_n]; omega) | fail) only [go_sem, ↓reduceIte, Nat.reduceEqDiff, Nat.reduceAdd, Nat.reduceMul, Int.reduceToNat, Int.reduceAdd, Int.reduceTDiv, Nat.reduceLeDiff], by simp (disch := first | assumption | omega | (simp only [push_n, set_n]; done) | (simp only [push_n, set_n]; omega) | fail) only [go_sem, ↓reduceIte, Nat.reduceEqDiff, Nat.reduceAdd, Nat.reduceMul, Int.reduceToNat, Int.reduceAdd, Int.reduceTDiv, Nat.reduceLeDiff]; rfl, rfl⟩
    clear a0 a3 a4 am a
    rintro m' a h2 ⟨j, m, rfl, hj, hmj, a0, a3, a4, a5, am, hij, n2, g2, gs, hr⟩
    have hxb : xb < h1.n := Nat.lt_of_lt_of_le hi.xn hx.1
    have hlb : lb < h1.n := Nat.lt_of_lt_of_le hi.ln hx.1
    have ix2 := (g2 xb hxb).trans ix
    obtain ⟨o, hoj⟩ : ∃ o, l[j]? = some o := ⟨_, List.getElem?_eq_getElem hj⟩
    have hl := getAt_map (f := One.cells) (s := 6) (fun _ => rfl) hoj
    have gl := (g2 lb hlb).trans ((hi.ext hx).l hne)
    simp (disch := first | assumption | omega | (simp only [push_n, set_n]; done) | (simp only [push_n, set_n]; omega) | fail) only [go_sem, ↓reduceIte, Nat.reduceEqDiff, Nat.reduceAdd, Nat.reduceMul, Int.reduceToNat, Int.reduceAdd, Int.reduceTDiv, Nat.reduceLeDiff, a0, a3, a4, a5, am, ix2, gl, hl]
    refine f60_spec fun h3 x3 => ?_
    have n_x3 := Ext.n_le x3; try simp only [push_n, set_n] at n_x3
    have hfo : (frees l)[j]? = some o.free := by simp [frees, hoj]
    have gs3 := (x3.2 h1.n (by omega)).trans gs
    have x13 : Ext h1 h3 := ⟨by omega, fun i hi => (x3.2 i (by omega)).trans (g2 i hi)⟩
    cases hf : o.free with
    | true =>
      rw [hf] at hfo
      rw [rows_drop_true hfo] at hr
      by_cases hend : j + 1 = l.length
      · obtain ⟨v', h4, e1, o4, x4, n4, g4, vc⟩ := OS.app_ext (h := (h3.set h1.n (.cells [.int .i64 (j - m : Nat), .int .i64 (m + 1)] 43 false)).push (.cells [.int .i64 (j - m : Nat), .int .i64 (m + 1)] 43 false)) (B := h3.n) (bytes := 16) (by have := hx.trans x13; have := hx.1; repeat (first | assumption | exact Ext.refl _ | refine Ext.push ?_ | refine Ext.set ?_ (by omega) | refine Ext.trans ?_ (by assumption))) (ho.mono (by (first | omega | (simp only [push_n, set_n]; done) | (simp only [push_n, set_n]; omega))) (fun i hi hi2 => by simp (disch := first | assumption | omega | (simp only [push_n, set_n]; done) | (simp only [push_n, set_n]; omega) | fail) only [go_sem, ↓reduceIte, Nat.reduceEqDiff, Nat.reduceAdd, Nat.reduceMul, Int.reduceToNat, Int.reduceAdd, Int.reduceTDiv, Nat.reduceLeDiff, x13.2])) (get_push_eq (by (first | omega | (simp only [push_n, set_n]; done) | (simp only [push_n, set_n]; omega)))) rfl (by decide) (by simp; omega)
        simp (disch := first | assumption | omega | (simp only [push_n, set_n]; done) | (simp only [push_n, set_n]; omega) | fail) only [go_sem, ↓reduceIte, Nat.reduceEqDiff, Nat.reduceAdd, Nat.reduceMul, Int.reduceToNat, Int.reduceAdd, Int.reduceTDiv, Nat.reduceLeDiff, a0, a3, a4, a5, am, gs3, x3.2, ix2]
        simp (disch := first | assumption | omega | (simp only [push_n, set_n]; done) | (simp only [push_n, set_n]; omega) | fail) only [go_sem, ↓reduceIte, Nat.reduceEqDiff, Nat.reduceAdd, Nat.reduceMul, Int.reduceToNat, Int.reduceAdd, Int.reduceTDiv, Nat.reduceLeDiff, a0, a3, a4, a5, am, e1]
        refine q _ _ x4 ?_
        rw [hrows, hr, hend, ← hfl, rows_drop_end, if_neg (by omega), List.map_append]
        have : (frees l).length - (m + 1) = j - m := by omega
        rw [this]
        exact o4
      · simp (disch := first | assumption | omega | (simp only [push_n, set_n]; done) | (simp only [push_n, set_n]; omega) | fail) only [go_sem, ↓reduceIte, Nat.reduceEqDiff, Nat.reduceAdd, Nat.reduceMul, Int.reduceToNat, Int.reduceAdd, Int.reduceTDiv, Nat.reduceLeDiff, a0, a3, a4, a5, am, gs3, x3.2, ix2]
        refine ⟨_, Nat.sub_lt_sub_left hj (Nat.lt_succ_self j), j + 1, m + 1, rfl, by omega, by omega, rfl, by omega, by omega, ?_, ?_, hr⟩
        · intro i hi
          simp (disch := first | assumption | omega | (simp only [push_n, set_n]; done) | (simp only [push_n, set_n]; omega) | fail) only [go_sem, ↓reduceIte, Nat.reduceEqDiff, Nat.reduceAdd, Nat.reduceMul, Int.reduceToNat, Int.reduceAdd, Int.reduceTDiv, Nat.reduceLeDiff, x13.2]
        · rw [show j + 1 - (m + 1) = j - m by omega]; rfl
    | false =>
      rw [hf] at hfo
      rw [rows_drop_false hfo] at hr
      by_cases hm : m = 0
      · subst hm
        simp (disch := first | assumption | omega | (simp only [push_n, set_n]; done) | (simp only [push_n, set_n]; omega) | fail) only [go_sem, ↓reduceIte, Nat.reduceEqDiff, Nat.reduceAdd, Nat.reduceMul, Int.reduceToNat, Int.reduceAdd, Int.reduceTDiv, Nat.reduceLeDiff, a0, a3, a4, a5, am, gs3, x3.2, ix2]
        rw [if_pos rfl] at hr
        exact ⟨l.length - (j + 1), by omega, j + 1, v, out, rfl, by omega, rfl, rfl, hx.trans x13, ho.ext x13, by rw [hrows, hr]⟩
      · rw [if_neg hm] at hr
        obtain ⟨v', h4, e1, o4, x4, n4, g4, vc⟩ := OS.app_ext (h := h3.push (.cells [.int .i64 (j - m : Nat), .int .i64 m] 43 false)) (B := h3.n) (bytes := 16) (by have := hx.trans x13; repeat (first | assumption | exact Ext.refl _ | refine Ext.push ?_ | refine Ext.set ?_ (by omega) | refine Ext.trans ?_ (by assumption))) ((ho.ext x13).ext (by repeat (first | assumption | exact Ext.refl _ | refine Ext.push ?_ | refine Ext.set ?_ (by omega) | refine Ext.trans ?_ (by assumption)))) (get_push_eq (by (first | omega | (simp only [push_n, set_n]; done) | (simp only [push_n, set_n]; omega)))) rfl (by decide) (by simp; omega)
        simp (disch := first | assumption | omega | (simp only [push_n, set_n]; done) | (simp only [push_n, set_n]; omega) | fail) only [go_sem, ↓reduceIte, Nat.reduceEqDiff, Nat.reduceAdd, Nat.reduceMul, Int.reduceToNat, Int.reduceAdd, Int.reduceTDiv, Nat.reduceLeDiff, a0, a3, a4, a5, am, gs3, x3.2, ix2, e1]
        refine ⟨l.length - (j + 1), by omega, j + 1, v', out ++ [(j - m, m)], rfl, by omega, rfl, rfl, x4, ?_, ?_⟩
        · rw [List.map_append]; exact o4
        · rw [hrows, hr, List.append_assoc]; rfl
  · obtain rfl : i = l.length := by omega
    simp (disch := first | assumption | omega | (simp only [push_n, set_n]; done) | (simp only [push_n, set_n]; omega) | fail) only [go_sem, ↓reduceIte, Nat.reduceEqDiff, Nat.reduceAdd, Nat.reduceMul, Int.reduceToNat, Int.reduceAdd, Int.reduceTDiv, Nat.reduceLeDiff, a0, a3, a4, am, ix]
    refine q _ _ hx ?_
    rw [show l.length = (frees l).length by simp [frees], rows_drop_end] at hrows
    simp at hrows
    rw [hrows]; exact ho

theorem split_at {α : Type} {l : List α} {k : Nat} {x : α} (hk : l[k]? = some x) : l = l.take k ++ x :: l.drop (k + 1) := by
  have hlt : k < l.length := by
    rcases Nat.lt_or_ge k l.length with h1 | h1
    · exact h1
    · rw [List.getElem?_eq_none h1] at hk; cases hk
  have := List.drop_eq_getElem_cons hlt
  rw [List.getElem?_eq_getElem hlt] at hk
  injection hk with hk
  rw [hk] at this
  rw [← this, List.take_append_drop]
/-- The lowest row of as many. -/
def rowI (rows : List (Nat × Nat)) (many : Nat) : Option Nat := (rows.find? fun p => decide (many ≤ p.2)).map (·.1)

theorem f58_spec {h : Heap} {Q : Value → Heap → Prop} {xb lb many : Nat} {l : List One} (hi : IX h xb lb l) (hn : l.length ≤ 1000) (hm : many ≤ 1000000)
    (q1 : ∀ i h', Ext h h' → rowI (rowsOf (frees l)) many = some i → Q (.tuple #[.int .i64 i, .bool true]) h')
    (q0 : ∀ h', Ext h h' → rowI (rowsOf (frees l)) many = none → Q (.tuple #[.int .i64 0, .bool false]) h') : WC T (.func (.func 58) #[] #[]) [.pointer (some ⟨xb, 0, none⟩), .int .i64 many] h Q := by
  refine WC_fn T58 rfl ?_
  simp (disch := first | assumption | omega | (simp only [push_n, set_n]; done) | (simp only [push_n, set_n]; omega) | fail) only [go_sem, ↓reduceIte, Nat.reduceEqDiff, Nat.reduceAdd, Nat.reduceMul, Int.reduceToNat, Int.reduceAdd, Int.reduceTDiv, Nat.reduceLeDiff, ir58]
  refine f35_spec hi hn fun v h1 x1 o1 => ?_
  have n_x1 := Ext.n_le x1; try simp only [push_n, set_n] at n_x1
  have hlen : (rowsOf (frees l)).length ≤ 1001 := by
    have := rowsAux_length (frees l) 0 0
    have : (frees l).length = l.length := by simp [frees]
    unfold rowsOf; omega
  generalize hrs : rowsOf (frees l) = rs at *
  have hv := o1.ixv
  rw [List.length_map] at hv
  have hcells := o1.cells
  have hvb := o1.vb_le
  generalize vb v = D at *
  subst hv
  simp (disch := first | assumption | omega | (simp only [push_n, set_n]; done) | (simp only [push_n, set_n]; omega) | fail) only [go_sem, ↓reduceIte, Nat.reduceEqDiff, Nat.reduceAdd, Nat.reduceMul, Int.reduceToNat, Int.reduceAdd, Int.reduceTDiv, Nat.reduceLeDiff]
  refine WE_loop (fun m a h' => ∃ k : Nat, m = rs.length - k ∧ k ≤ rs.length ∧ a.get 1 = .int .i64 many ∧ a.get 9 = ixv D rs.length ∧ a.get 10 = .int .i64 rs.length ∧ a.get 11 = .int .i64 k ∧ a.marks = [] ∧ Ext h1 h' ∧ ∀ p ∈ rs.take k, ¬ many ≤ p.2) ?_ (m := rs.length) ⟨0, by omega, by omega, by simp (disch := first | assumption | omega | (simp only [push_n, set_n]; done) | (simp only [push_n, set_n]; omega) | fail) only [go_sem, ↓reduceIte, Nat.reduceEqDiff, Nat.reduceAdd, Nat.reduceMul, Int.reduceToNat, Int.reduceAdd, Int.reduceTDiv, Nat.reduceLeDiff], by simp (disch := first | assumption | omega | (simp only [push_n, set_n]; done) | (simp only [push_n, set_n]; omega) | fail) only [go_sem, ↓reduceIte, Nat.reduceEqDiff, Nat.reduceAdd, Nat.reduceMul, Int.reduceToNat, Int.reduceAdd, Int.reduceTDiv, Nat.reduceLeDiff], by simp (disch := first | assumption | omega | (simp only [push_n, set_n]; done) | (simp only [push_n, set_n]; omega) | fail) only [go_sem, ↓reduceIte, Nat.reduceEqDiff, Nat.reduceAdd, Nat.reduceMul, Int.reduceToNat, Int.reduceAdd, Int.reduceTDiv, Nat.reduceLeDiff], by simp (disch := first | assumption | omega | (simp only [push_n, set_n]; done) | (simp only [push_n, set_n]; omega) | fail) only [go_sem, ↓reduceIte, Nat.reduceEqDiff, Nat.reduceAdd, Nat.reduceMul, Int.reduceToNat, Int.reduceAdd, Int.reduceTDiv, Nat.reduceLeDiff], rfl, Ext.refl _, by simp⟩
  rintro m a h2 ⟨k, rfl, hk, a1, a9, a10, a11, am, hx, hnot⟩
  by_cases hkn : k < rs.length
  · obtain ⟨p, hp⟩ : ∃ p, rs[k]? = some p := ⟨_, List.getElem?_eq_getElem hkn⟩
    have hne : rs.map spanC ≠ [] := by intro e; rw [List.map_eq_nil_iff] at e; subst e; simp at hkn
    have hl := getAt_map (f := spanC) (s := 2) (fun _ => rfl) hp
    have gD := (hx.2 D (hvb hne).2).trans (hcells hne)
    simp (disch := first | assumption | omega | (simp only [push_n, set_n]; done) | (simp only [push_n, set_n]; omega) | fail) only [go_sem, ↓reduceIte, Nat.reduceEqDiff, Nat.reduceAdd, Nat.reduceMul, Int.reduceToNat, Int.reduceAdd, Int.reduceTDiv, Nat.reduceLeDiff, a1, a9, a10, a11, am, gD, hl, spanC]
    by_cases hle : many ≤ p.2
    · simp (disch := first | assumption | omega | (simp only [push_n, set_n]; done) | (simp only [push_n, set_n]; omega) | fail) only [go_sem, ↓reduceIte, Nat.reduceEqDiff, Nat.reduceAdd, Nat.reduceMul, Int.reduceToNat, Int.reduceAdd, Int.reduceTDiv, Nat.reduceLeDiff, a1, a9, a10, a11, am]
      refine q1 p.1 _ (by repeat (first | assumption | exact Ext.refl _ | refine Ext.push ?_ | refine Ext.set ?_ (by omega) | refine Ext.trans ?_ (by assumption))) ?_
      unfold rowI
      have : rs.find? (fun p => decide (many ≤ p.2)) = some p := by
        rw [List.find?_eq_some_iff_append]
        refine ⟨by simpa using hle, rs.take k, rs.drop (k + 1), ?_, fun a ha => by simpa using hnot a ha⟩
        exact split_at hp
      rw [this]; rfl
    · simp (disch := first | assumption | omega | (simp only [push_n, set_n]; done) | (simp only [push_n, set_n]; omega) | fail) only [go_sem, ↓reduceIte, Nat.reduceEqDiff, Nat.reduceAdd, Nat.reduceMul, Int.reduceToNat, Int.reduceAdd, Int.reduceTDiv, Nat.reduceLeDiff, a1, a9, a10, a11, am]
      refine ⟨_, Nat.sub_lt_sub_left hkn (Nat.lt_succ_self k), k + 1, rfl, by omega, rfl, by repeat (first | assumption | exact Ext.refl _ | refine Ext.push ?_ | refine Ext.set ?_ (by omega) | refine Ext.trans ?_ (by assumption)), fun p' hp' => ?_⟩
      rw [take_succ hp] at hp'
      rcases List.mem_append.1 hp' with h3 | h3
      · exact hnot p' h3
      · simp at h3; rw [h3]; exact hle
  · obtain rfl : k = rs.length := by omega
    simp (disch := first | assumption | omega | (simp only [push_n, set_n]; done) | (simp only [push_n, set_n]; omega) | fail) only [go_sem, ↓reduceIte, Nat.reduceEqDiff, Nat.reduceAdd, Nat.reduceMul, Int.reduceToNat, Int.reduceAdd, Int.reduceTDiv, Nat.reduceLeDiff, a1, a9, a10, a11, am]
    refine q0 _ (by repeat (first | assumption | exact Ext.refl _ | refine Ext.push ?_ | refine Ext.set ?_ (by omega) | refine Ext.trans ?_ (by assumption))) ?_
    rw [List.take_length] at hnot
    unfold rowI
    rw [List.find?_eq_none.2 (fun p hp => by simpa using hnot p hp)]
    rfl
end Go.Am.YtdcppkhobfbpeaaDoor
