/-
  What the document's answer tells of sizes; the rows of a table.
-/
import Derived.Test.YtdcppkhobfbpeaaDoorD15
set_option linter.unusedVariables false
set_option linter.unusedSimpArgs false
namespace Go.Am.YtdcppkhobfbpeaaDoor
open Go Go.Am Go.Proofs

theorem f52_spec {h : Heap} {Q : Value → Heap → Prop} {n : Nat} (hn : n ≤ 4096) (q : Q (.bool true) h) : WC T (.func (.func 52) #[] #[]) [.int .i64 n] h Q := by
  refine WC_fn T52 rfl ?_
  simp (disch := first | assumption | omega | (simp only [push_n, set_n]; done) | (simp only [push_n, set_n]; omega) | fail) only [go_sem, ↓reduceIte, Nat.reduceEqDiff, Nat.reduceAdd, Nat.reduceMul, Int.reduceToNat, Int.reduceAdd, Int.reduceTDiv, Nat.reduceLeDiff, ir52]
  exact q

theorem f19_spec {h : Heap} {Q : Value → Heap → Prop} {n : Nat} (hn : n ≤ 4096) (q : Q (.int .i64 (clsI n)) h) : WC T (.func (.func 19) #[] #[]) [.int .i64 n] h Q := by
  refine WC_fn T19 rfl ?_
  simp (disch := first | assumption | omega | (simp only [push_n, set_n]; done) | (simp only [push_n, set_n]; omega) | fail) only [go_sem, ↓reduceIte, Nat.reduceEqDiff, Nat.reduceAdd, Nat.reduceMul, Int.reduceToNat, Int.reduceAdd, Int.reduceTDiv, Nat.reduceLeDiff, ir19]
  refine f52_spec hn ?_
  simp (disch := first | assumption | omega | (simp only [push_n, set_n]; done) | (simp only [push_n, set_n]; omega) | fail) only [go_sem, ↓reduceIte, Nat.reduceEqDiff, Nat.reduceAdd, Nat.reduceMul, Int.reduceToNat, Int.reduceAdd, Int.reduceTDiv, Nat.reduceLeDiff]
  refine WE_unroll ?_
  simp (disch := first | assumption | omega | (simp only [push_n, set_n]; done) | (simp only [push_n, set_n]; omega) | fail) only [go_sem, ↓reduceIte, Nat.reduceEqDiff, Nat.reduceAdd, Nat.reduceMul, Int.reduceToNat, Int.reduceAdd, Int.reduceTDiv, Nat.reduceLeDiff]
  refine f40_spec (k := 0) ?_
  rw [show blockOf 0 = 4 from rfl]
  by_cases c0 : n ≤ 2
  · rw [show clsI n = 0 by simp [clsI, clsOf, c0]] at q
    simp (disch := first | assumption | omega | (simp only [push_n, set_n]; done) | (simp only [push_n, set_n]; omega) | fail) only [go_sem, ↓reduceIte, Nat.reduceEqDiff, Nat.reduceAdd, Nat.reduceMul, Int.reduceToNat, Int.reduceAdd, Int.reduceTDiv, Nat.reduceLeDiff]
    exact q
  simp (disch := first | assumption | omega | (simp only [push_n, set_n]; done) | (simp only [push_n, set_n]; omega) | fail) only [go_sem, ↓reduceIte, Nat.reduceEqDiff, Nat.reduceAdd, Nat.reduceMul, Int.reduceToNat, Int.reduceAdd, Int.reduceTDiv, Nat.reduceLeDiff]
  refine WE_unroll ?_
  simp (disch := first | assumption | omega | (simp only [push_n, set_n]; done) | (simp only [push_n, set_n]; omega) | fail) only [go_sem, ↓reduceIte, Nat.reduceEqDiff, Nat.reduceAdd, Nat.reduceMul, Int.reduceToNat, Int.reduceAdd, Int.reduceTDiv, Nat.reduceLeDiff]
  refine f40_spec (k := 1) ?_
  rw [show blockOf 1 = 8 from rfl]
  by_cases c1 : n ≤ 6
  · rw [show clsI n = 1 by simp [clsI, clsOf, c0, c1]] at q
    simp (disch := first | assumption | omega | (simp only [push_n, set_n]; done) | (simp only [push_n, set_n]; omega) | fail) only [go_sem, ↓reduceIte, Nat.reduceEqDiff, Nat.reduceAdd, Nat.reduceMul, Int.reduceToNat, Int.reduceAdd, Int.reduceTDiv, Nat.reduceLeDiff]
    exact q
  simp (disch := first | assumption | omega | (simp only [push_n, set_n]; done) | (simp only [push_n, set_n]; omega) | fail) only [go_sem, ↓reduceIte, Nat.reduceEqDiff, Nat.reduceAdd, Nat.reduceMul, Int.reduceToNat, Int.reduceAdd, Int.reduceTDiv, Nat.reduceLeDiff]
  refine WE_unroll ?_
  simp (disch := first | assumption | omega | (simp only [push_n, set_n]; done) | (simp only [push_n, set_n]; omega) | fail) only [go_sem, ↓reduceIte, Nat.reduceEqDiff, Nat.reduceAdd, Nat.reduceMul, Int.reduceToNat, Int.reduceAdd, Int.reduceTDiv, Nat.reduceLeDiff]
  refine f40_spec (k := 2) ?_
  rw [show blockOf 2 = 16 from rfl]
  by_cases c2 : n ≤ 14
  · rw [show clsI n = 2 by simp [clsI, clsOf, c0, c1, c2]] at q
    simp (disch := first | assumption | omega | (simp only [push_n, set_n]; done) | (simp only [push_n, set_n]; omega) | fail) only [go_sem, ↓reduceIte, Nat.reduceEqDiff, Nat.reduceAdd, Nat.reduceMul, Int.reduceToNat, Int.reduceAdd, Int.reduceTDiv, Nat.reduceLeDiff]
    exact q
  simp (disch := first | assumption | omega | (simp only [push_n, set_n]; done) | (simp only [push_n, set_n]; omega) | fail) only [go_sem, ↓reduceIte, Nat.reduceEqDiff, Nat.reduceAdd, Nat.reduceMul, Int.reduceToNat, Int.reduceAdd, Int.reduceTDiv, Nat.reduceLeDiff]
  refine WE_unroll ?_
  rw [show clsI n = -1 by simp [clsI, clsOf, c0, c1, c2]] at q
  simp (disch := first | assumption | omega | (simp only [push_n, set_n]; done) | (simp only [push_n, set_n]; omega) | fail) only [go_sem, ↓reduceIte, Nat.reduceEqDiff, Nat.reduceAdd, Nat.reduceMul, Int.reduceToNat, Int.reduceAdd, Int.reduceTDiv, Nat.reduceLeDiff]
  exact q

/-- How many chunks: none for a size with a class. -/
def chunksR (n : Nat) : Nat := if n ≤ 14 then 0 else chunksOf n
theorem clsI_small {n : Nat} (h : n ≤ 14) : 0 ≤ clsI n := by
  unfold clsI clsOf
  by_cases c0 : n ≤ 2
  · rw [if_pos c0]; decide
  by_cases c1 : n ≤ 6
  · rw [if_neg c0, if_pos c1]; decide
  rw [if_neg c0, if_neg c1, if_pos h]; decide
theorem clsI_large {n : Nat} (h : ¬ n ≤ 14) : clsI n = -1 := by
  unfold clsI clsOf
  rw [if_neg (by omega), if_neg (by omega), if_neg h]

theorem f18_spec {h : Heap} {Q : Value → Heap → Prop} {n : Nat} (hn : n ≤ 4096) (q : Q (.int .i64 (chunksR n)) h) : WC T (.func (.func 18) #[] #[]) [.int .i64 n] h Q := by
  refine WC_fn T18 rfl ?_
  simp (disch := first | assumption | omega | (simp only [push_n, set_n]; done) | (simp only [push_n, set_n]; omega) | fail) only [go_sem, ↓reduceIte, Nat.reduceEqDiff, Nat.reduceAdd, Nat.reduceMul, Int.reduceToNat, Int.reduceAdd, Int.reduceTDiv, Nat.reduceLeDiff, ir18]
  refine f52_spec hn ?_
  simp (disch := first | assumption | omega | (simp only [push_n, set_n]; done) | (simp only [push_n, set_n]; omega) | fail) only [go_sem, ↓reduceIte, Nat.reduceEqDiff, Nat.reduceAdd, Nat.reduceMul, Int.reduceToNat, Int.reduceAdd, Int.reduceTDiv, Nat.reduceLeDiff]
  refine WE_loop (fun m a h' => ∃ k : Nat, m = chunksR n - k ∧ k ≤ chunksR n ∧ a.get 0 = .int .i64 n ∧ a.get 3 = .bool true ∧ a.get 4 = .int .i64 k ∧ a.marks = [] ∧ h' = h) ?_ (m := chunksR n) ⟨0, by omega, by omega, by simp (disch := first | assumption | omega | (simp only [push_n, set_n]; done) | (simp only [push_n, set_n]; omega) | fail) only [go_sem, ↓reduceIte, Nat.reduceEqDiff, Nat.reduceAdd, Nat.reduceMul, Int.reduceToNat, Int.reduceAdd, Int.reduceTDiv, Nat.reduceLeDiff], by simp (disch := first | assumption | omega | (simp only [push_n, set_n]; done) | (simp only [push_n, set_n]; omega) | fail) only [go_sem, ↓reduceIte, Nat.reduceEqDiff, Nat.reduceAdd, Nat.reduceMul, Int.reduceToNat, Int.reduceAdd, Int.reduceTDiv, Nat.reduceLeDiff], by simp (disch := first | assumption | omega | (simp only [push_n, set_n]; done) | (simp only [push_n, set_n]; omega) | fail) only [go_sem, ↓reduceIte, Nat.reduceEqDiff, Nat.reduceAdd, Nat.reduceMul, Int.reduceToNat, Int.reduceAdd, Int.reduceTDiv, Nat.reduceLeDiff], rfl, rfl⟩
  rintro m a h' ⟨k, rfl, hk, a0, a3, a4, am, rfl⟩
  have hcr : chunksR n ≤ 200 := by unfold chunksR chunksOf; split <;> omega
  simp (disch := first | assumption | omega | (simp only [push_n, set_n]; done) | (simp only [push_n, set_n]; omega) | fail) only [go_sem, ↓reduceIte, Nat.reduceEqDiff, Nat.reduceAdd, Nat.reduceMul, Int.reduceToNat, Int.reduceAdd, Int.reduceTDiv, Nat.reduceLeDiff, a0, a3, a4, am]
  refine f19_spec hn ?_
  by_cases c : n ≤ 14
  · have hc := clsI_small c
    obtain rfl : k = 0 := by unfold chunksR at hk; rw [if_pos c] at hk; omega
    rw [show chunksR n = 0 from if_pos c] at q
    simp (disch := first | assumption | omega | (simp only [push_n, set_n]; done) | (simp only [push_n, set_n]; omega) | fail) only [go_sem, ↓reduceIte, Nat.reduceEqDiff, Nat.reduceAdd, Nat.reduceMul, Int.reduceToNat, Int.reduceAdd, Int.reduceTDiv, Nat.reduceLeDiff, a0, a3, a4, am]
    exact q
  · rw [clsI_large c]
    have he : chunksR n = (n + 33) / 32 := by unfold chunksR chunksOf; rw [if_neg c]
    by_cases hlt : k < chunksR n
    · have : 32 * k < n + 2 := by omega
      simp (disch := first | assumption | omega | (simp only [push_n, set_n]; done) | (simp only [push_n, set_n]; omega) | fail) only [go_sem, ↓reduceIte, Nat.reduceEqDiff, Nat.reduceAdd, Nat.reduceMul, Int.reduceToNat, Int.reduceAdd, Int.reduceTDiv, Nat.reduceLeDiff, a0, a3, a4, am]
      exact ⟨_, Nat.sub_lt_sub_left hlt (Nat.lt_succ_self k), k + 1, rfl, by omega, rfl⟩
    · obtain rfl : k = chunksR n := by omega
      have : ¬ 32 * chunksR n < n + 2 := by omega
      simp (disch := first | assumption | omega | (simp only [push_n, set_n]; done) | (simp only [push_n, set_n]; omega) | fail) only [go_sem, ↓reduceIte, Nat.reduceEqDiff, Nat.reduceAdd, Nat.reduceMul, Int.reduceToNat, Int.reduceAdd, Int.reduceTDiv, Nat.reduceLeDiff, a0, a3, a4, am]
      exact q

/-- Whether a chunk may be had, by its word alone. -/
def Ck.may (c : Ck) : Bool := match c with
  | .free => true
  | .run _ b => decide (b = 0#64)
  | _ => false

/-- The rows, one chunk more. -/
def rowStep (out : List (Nat × Nat)) (i : Nat) : List (Nat × Nat) := match out.getLast? with
  | some p => if p.1 + p.2 = i then out.dropLast ++ [(p.1, p.2 + 1)] else out ++ [(i, 1)]
  | none => [(i, 1)]
theorem set_last {l : List (Nat × Nat)} {p q : Nat × Nat} (h : l.getLast? = some p) : l.dropLast ++ [q] = l.set (l.length - 1) q := by
  have hne : l ≠ [] := by intro e; subst e; cases h
  obtain ⟨r, x, rfl⟩ : ∃ r x, l = r ++ [x] := ⟨l.dropLast, l.getLast hne, (List.dropLast_concat_getLast hne).symm⟩
  rw [List.dropLast_concat, List.length_append, List.length_singleton, Nat.add_sub_cancel, List.set_append_right _ _ (Nat.le_refl _), Nat.sub_self]
  rfl
/-- What is known of the rows so far. -/
def RowsSo (fs : List Bool) (i : Nat) (out : List (Nat × Nat)) : Prop :=
  ∃ (pre : List (Nat × Nat)) (m : Nat), m ≤ i ∧ rowsOf fs = pre ++ rowsAux i m (fs.drop i) ∧ (∀ p ∈ pre, p.1 + p.2 < i - m) ∧ out = if m = 0 then pre else pre ++ [(i - m, m)]
theorem rowsSo_0 {fs : List Bool} : RowsSo fs 0 [] := ⟨[], 0, Nat.le_refl _, rfl, by simp, rfl⟩
theorem rowsSo_false {fs : List Bool} {i : Nat} {out : List (Nat × Nat)} (h : RowsSo fs i out) (hf : fs[i]? = some false) : RowsSo fs (i + 1) out := by
  obtain ⟨pre, m, hm, h1, h2, h3⟩ := h
  rw [rows_drop_false hf] at h1
  by_cases e : m = 0
  · subst e
    rw [if_pos rfl] at h1 h3
    exact ⟨pre, 0, by omega, h1, fun p hp => by have := h2 p hp; omega, by rw [if_pos rfl]; exact h3⟩
  · rw [if_neg e] at h1 h3
    refine ⟨pre ++ [(i - m, m)], 0, by omega, by rw [h1, List.append_assoc]; rfl, fun p hp => ?_, by rw [if_pos rfl]; exact h3⟩
    rcases List.mem_append.1 hp with h4 | h4
    · have := h2 p h4; omega
    · simp at h4; subst h4; simp only; omega
theorem rowsSo_true {fs : List Bool} {i : Nat} {out : List (Nat × Nat)} (h : RowsSo fs i out) (hf : fs[i]? = some true) : RowsSo fs (i + 1) (rowStep out i) := by
  obtain ⟨pre, m, hm, h1, h2, h3⟩ := h
  rw [rows_drop_true hf] at h1
  refine ⟨pre, m + 1, by omega, h1, fun p hp => by have := h2 p hp; omega, ?_⟩
  rw [if_neg (by omega), show i + 1 - (m + 1) = i - m by omega]
  by_cases e : m = 0
  · subst e
    rw [if_pos rfl] at h3
    subst h3
    unfold rowStep
    cases hl : out.getLast? with
    | none => rw [List.getLast?_eq_none_iff] at hl; subst hl; rfl
    | some p =>
      have := h2 p (List.mem_of_getLast? hl)
      simp only
      rw [if_neg (by omega)]; rfl
  · rw [if_neg e] at h3
    subst h3
    unfold rowStep
    simp only [List.getLast?_append, List.getLast?_singleton, Option.some_or, List.dropLast_concat]
    rw [if_pos (by omega)]
theorem rowsSo_end {fs : List Bool} {out : List (Nat × Nat)} (h : RowsSo fs fs.length out) : rowsOf fs = out := by
  obtain ⟨pre, m, hm, h1, h2, h3⟩ := h
  rw [rows_drop_end] at h1
  by_cases e : m = 0
  · rw [if_pos e] at h1 h3; rw [h1, h3, List.append_nil]
  · rw [if_neg e] at h1 h3; rw [h1, h3]
theorem rowsSo_le {fs : List Bool} {i : Nat} {out : List (Nat × Nat)} (h : RowsSo fs i out) : ∀ p ∈ out, p.1 + p.2 ≤ i := by
  obtain ⟨pre, m, hm, h1, h2, h3⟩ := h
  intro p hp
  rw [h3] at hp
  split at hp
  · have := h2 p hp; omega
  · rcases List.mem_append.1 hp with h4 | h4
    · have := h2 p h4; omega
    · simp at h4; subst h4; simp only; omega
theorem rowStep_length {out : List (Nat × Nat)} {i : Nat} : (rowStep out i).length ≤ out.length + 1 := by
  unfold rowStep
  split
  · split <;> simp <;> omega
  · simp

/-- A part of an element of one's own slice is written. -/
theorem _root_.Go.Am.OS.put {h : Heap} {e : TypeId} {s lo : Nat} {v : Value} {l : List (List Value)} (hr : OS h e s lo v l) {j o : Nat} {vs x : List Value} (hj : l[j]? = some x) (ho : o + vs.length ≤ s) :
    setAt l.flatten (j * s + o) vs = (l.set j (setAt x o vs)).flatten ∧ OS (h.set (vb v) (.cells (l.set j (setAt x o vs)).flatten e false)) e s lo v (l.set j (setAt x o vs)) := by
  refine ⟨setAt_part l s hr.all j o vs x hj ho, fun y hy => ?_, ?_⟩
  · rcases List.mem_or_eq_of_mem_set hy with h1 | h1
    · exact hr.all y h1
    · rw [h1, length_setAt]; exact hr.all x (List.mem_of_getElem? hj)
  · have hne : l ≠ [] := by intro e; subst e; simp at hj
    rcases hr.is with ⟨_, h2⟩ | ⟨b, h1, h2, h3, h4, _⟩
    · exact (hne h2).elim
    · refine .inr ⟨b, by rw [List.length_set]; exact h1, ?_, h3, h4, ?_⟩
      · rw [h1]; exact get_set_eq rfl
      · intro e
        have := congrArg List.length e
        rw [List.length_set] at this
        exact hne (List.eq_nil_of_length_eq_zero this)

theorem f15_spec {h : Heap} {Q : Value → Heap → Prop} {tv : Value} {cs : List Ck} (hb : blocks h) (hr : RS h 1 tv (cs.map Ck.word)) (hok : ∀ c ∈ cs, c.ok) (hn : cs.length ≤ 1000)
    (q : ∀ v h', Ext h h' → OS h' 43 2 h.n v ((rowsOf (cs.map Ck.may)).map spanC) → Q v h') : WC T (.func (.func 15) #[] #[]) [tv] h Q := by
  refine WC_fn T15 rfl ?_
  simp (disch := first | assumption | omega | (simp only [push_n, set_n]; done) | (simp only [push_n, set_n]; omega) | fail) only [go_sem, ↓reduceIte, Nat.reduceEqDiff, Nat.reduceAdd, Nat.reduceMul, Int.reduceToNat, Int.reduceAdd, Int.reduceTDiv, Nat.reduceLeDiff, ir15]
  refine f17_spec hb hr hok hn fun v1 h1 x1 o1 => ?_
  have n_x1 := Ext.n_le x1; try simp only [push_n, set_n] at n_x1
  have hv := o1.ixv
  rw [List.length_map] at hv
  have hcells := o1.cells
  have hvb := o1.vb_le
  generalize vb v1 = D at *
  subst hv
  simp (disch := first | assumption | omega | (simp only [push_n, set_n]; done) | (simp only [push_n, set_n]; omega) | fail) only [go_sem, ↓reduceIte, Nat.reduceEqDiff, Nat.reduceAdd, Nat.reduceMul, Int.reduceToNat, Int.reduceAdd, Int.reduceTDiv, Nat.reduceLeDiff]
  refine WE_loop (fun m a h' => ∃ (k : Nat) (v : Value) (out : List (Nat × Nat)), m = cs.length - k ∧ k ≤ cs.length ∧ a.get 5 = v ∧ a.get 14 = ixv D cs.length ∧ a.get 15 = .int .i64 cs.length ∧ a.get 16 = .int .i64 k ∧ a.marks = [] ∧ Ext h1 h' ∧ OS h' 43 2 h1.n v (out.map spanC) ∧ out.length ≤ k ∧ RowsSo (cs.map Ck.may) k out) ?_ (m := cs.length) ⟨0, .slice none 0 0, [], by omega, by omega, by simp (disch := first | assumption | omega | (simp only [push_n, set_n]; done) | (simp only [push_n, set_n]; omega) | fail) only [go_sem, ↓reduceIte, Nat.reduceEqDiff, Nat.reduceAdd, Nat.reduceMul, Int.reduceToNat, Int.reduceAdd, Int.reduceTDiv, Nat.reduceLeDiff], by simp (disch := first | assumption | omega | (simp only [push_n, set_n]; done) | (simp only [push_n, set_n]; omega) | fail) only [go_sem, ↓reduceIte, Nat.reduceEqDiff, Nat.reduceAdd, Nat.reduceMul, Int.reduceToNat, Int.reduceAdd, Int.reduceTDiv, Nat.reduceLeDiff], by simp (disch := first | assumption | omega | (simp only [push_n, set_n]; done) | (simp only [push_n, set_n]; omega) | fail) only [go_sem, ↓reduceIte, Nat.reduceEqDiff, Nat.reduceAdd, Nat.reduceMul, Int.reduceToNat, Int.reduceAdd, Int.reduceTDiv, Nat.reduceLeDiff], by simp (disch := first | assumption | omega | (simp only [push_n, set_n]; done) | (simp only [push_n, set_n]; omega) | fail) only [go_sem, ↓reduceIte, Nat.reduceEqDiff, Nat.reduceAdd, Nat.reduceMul, Int.reduceToNat, Int.reduceAdd, Int.reduceTDiv, Nat.reduceLeDiff], rfl, Ext.refl _, OS.nil, by simp, rowsSo_0⟩
  rintro m a h2 ⟨k, v, out, rfl, hk, a5, a14, a15, a16, am, x2, ho, hol, hso⟩
  have n_x2 := Ext.n_le x2; try simp only [push_n, set_n] at n_x2
  by_cases hkn : k < cs.length
  · obtain ⟨c, hc⟩ : ∃ c, cs[k]? = some c := ⟨_, List.getElem?_eq_getElem hkn⟩
    have hne : cs.map Ck.cells ≠ [] := by intro e; rw [List.map_eq_nil_iff] at e; subst e; simp at hkn
    have gD := (x2.2 D (hvb hne).2).trans (hcells hne)
    have hl := getAt_map (f := Ck.cells) (s := 5) (fun _ => rfl) hc
    have hfk : (cs.map Ck.may)[k]? = some c.may := by rw [List.getElem?_map, hc]; rfl
    have hv2 := ho.ixv
    rw [List.length_map] at hv2
    rw [hv2] at a5
    have hol2 : (out.map spanC).flatten.length = out.length * 2 := by rw [flatten_length _ 2 (fun y hy => by obtain ⟨z, _, rfl⟩ := List.mem_map.1 hy; rfl), List.length_map]
    have bound : ∀ H : Heap, Ext h2 H → out ≠ [] → H.get (vb v) = .cells (out.map spanC).flatten 43 false := fun H hH hne => by
      have hne' : out.map spanC ≠ [] := by simpa using hne
      rw [hH.2 (vb v) (ho.vb_le hne').2]; exact ho.cells hne'
    have app : ∀ H : Heap, Ext h2 H → ∃ v' h4, appV (H.push (.cells [.int .i64 k, .int .i64 1] 43 false)) 43 2 16 (ixv (vb v) out.length) (.slice (some ⟨H.n, 0, none⟩) 1 1) = some (v', h4) ∧ OS h4 43 2 h1.n v' ((out ++ [(k, 1)]).map spanC) ∧ Ext h1 h4 := fun H hH => by
      obtain ⟨v', h4, e1, o4, x4, n4, g4, vc⟩ := OS.app_ext (h0 := h1) (h := H.push (.cells [.int .i64 k, .int .i64 1] 43 false)) (B := H.n) (bytes := 16) ((x2.trans hH).push) ((ho.ext hH).ext (Ext.push (Ext.refl H))) (get_push_eq rfl) rfl (by decide) (by simp; omega)
      rw [← hv2]
      exact ⟨v', h4, e1, by rw [List.map_append]; exact o4, x4⟩
    have fin0 : c.may = false → RowsSo (cs.map Ck.may) (k + 1) out := fun h => rowsSo_false hso (by rw [hfk, h])
    have fin1 : c.may = true → RowsSo (cs.map Ck.may) (k + 1) (rowStep out k) := fun h => rowsSo_true hso (by rw [hfk, h])
    have stepl : (rowStep out k).length ≤ k + 1 := by have := rowStep_length (out := out) (i := k); omega
    have lastp : ∀ p, out.getLast? = some p → out[out.length - 1]? = some p ∧ out ≠ [] ∧ 1 ≤ out.length := fun p hp => by
      have hne2 : out ≠ [] := by intro e; subst e; cases hp
      refine ⟨by rw [← List.getLast?_eq_getElem?]; exact hp, hne2, ?_⟩
      have := List.length_pos_iff.2 hne2; omega
    cases c with
    | free =>
      have hmay : Ck.free.may = true := rfl
      simp (disch := first | assumption | omega | (simp only [push_n, set_n]; done) | (simp only [push_n, set_n]; omega) | fail) only [go_sem, ↓reduceIte, Nat.reduceEqDiff, Nat.reduceAdd, Nat.reduceMul, Int.reduceToNat, Int.reduceAdd, Int.reduceTDiv, Nat.reduceLeDiff, a5, a14, a15, a16, am, gD, hl, Ck.kind]
      cases hlast : out.getLast? with
      | none =>
        obtain rfl : out = [] := List.getLast?_eq_none_iff.1 hlast
        have hro : rowStep [] k = [] ++ [(k, 1)] := rfl
        have hso' := fin1 hmay
        rw [hro] at hso'
        obtain ⟨v', h4, e1, o4, x4⟩ := app (h2.push (.cells Ck.free.cells 47 false)) (by repeat (first | assumption | exact Ext.refl _ | refine Ext.push ?_ | refine Ext.set ?_ (by omega) | refine Ext.trans ?_ (by assumption)))
        try simp only [push_n, List.length_nil] at e1
        simp (disch := first | assumption | omega | (simp only [push_n, set_n]; done) | (simp only [push_n, set_n]; omega) | fail) only [go_sem, ↓reduceIte, Nat.reduceEqDiff, Nat.reduceAdd, Nat.reduceMul, Int.reduceToNat, Int.reduceAdd, Int.reduceTDiv, Nat.reduceLeDiff, a5, a14, a15, a16, am, e1, List.length_nil]
        exact ⟨_, Nat.sub_lt_sub_left hkn (Nat.lt_succ_self k), k + 1, v', _, rfl, by omega, rfl, rfl, x4, o4, by simp, hso'⟩
      | some p =>
        obtain ⟨hgl, hne2, hol1⟩ := lastp p hlast
        have hple := rowsSo_le hso p (List.mem_of_getLast? hlast)
        have gv := bound (h2.push (.cells Ck.free.cells 47 false)) (by repeat (first | assumption | exact Ext.refl _ | refine Ext.push ?_ | refine Ext.set ?_ (by omega) | refine Ext.trans ?_ (by assumption))) hne2
        have pv0 := getAt_part (out.map spanC) 2 ho.all (out.length - 1) 0 1 (spanC p) (by rw [List.getElem?_map, hgl]; rfl) (by decide)
        have pv1 := getAt_part (out.map spanC) 2 ho.all (out.length - 1) 1 1 (spanC p) (by rw [List.getElem?_map, hgl]; rfl) (by decide)
        rw [Nat.add_zero] at pv0
        have etn : ((out.length : Int) - 1).toNat = out.length - 1 := by omega
        by_cases hpk : p.1 + p.2 = k
        · have hro : rowStep out k = out.set (out.length - 1) (p.1, p.2 + 1) := by
            unfold rowStep; simp only [hlast]; rw [if_pos hpk]; exact set_last hlast
          have hso' := fin1 hmay
          rw [hro] at hso'
          obtain ⟨e2, o2⟩ := (ho.ext (h' := (h2.push (.cells Ck.free.cells 47 false))) (by repeat (first | assumption | exact Ext.refl _ | refine Ext.push ?_ | refine Ext.set ?_ (by omega) | refine Ext.trans ?_ (by assumption)))).put (j := out.length - 1) (o := 1) (vs := [.int .i64 ((p.2 : Int) + 1)]) (by rw [List.getElem?_map, hgl]; rfl) (Nat.le_refl 2)
          simp (disch := first | assumption | omega | (simp only [push_n, set_n]; done) | (simp only [push_n, set_n]; omega) | fail) only [go_sem, ↓reduceIte, Nat.reduceEqDiff, Nat.reduceAdd, Nat.reduceMul, Int.reduceToNat, Int.reduceAdd, Int.reduceTDiv, Nat.reduceLeDiff, a5, a14, a15, a16, am, gv, pv0, pv1, spanC, etn, hol2]
          rw [e2]
          refine ⟨_, Nat.sub_lt_sub_left hkn (Nat.lt_succ_self k), k + 1, v, _, rfl, by omega, hv2.symm, rfl, Ext.set (by repeat (first | assumption | exact Ext.refl _ | refine Ext.push ?_ | refine Ext.set ?_ (by omega) | refine Ext.trans ?_ (by assumption))) (ho.vb_le (by simpa using hne2)).1, ?_, by rw [← hro]; exact stepl, hso'⟩
          rw [List.map_set]
          exact o2
        · have hro : rowStep out k = out ++ [(k, 1)] := by
            unfold rowStep; simp only [hlast]; rw [if_neg hpk]
          have hso' := fin1 hmay
          rw [hro] at hso'
          obtain ⟨v', h4, e1, o4, x4⟩ := app (h2.push (.cells Ck.free.cells 47 false)) (by repeat (first | assumption | exact Ext.refl _ | refine Ext.push ?_ | refine Ext.set ?_ (by omega) | refine Ext.trans ?_ (by assumption)))
          try simp only [push_n] at e1
          simp (disch := first | assumption | omega | (simp only [push_n, set_n]; done) | (simp only [push_n, set_n]; omega) | fail) only [go_sem, ↓reduceIte, Nat.reduceEqDiff, Nat.reduceAdd, Nat.reduceMul, Int.reduceToNat, Int.reduceAdd, Int.reduceTDiv, Nat.reduceLeDiff, a5, a14, a15, a16, am, gv, pv0, pv1, spanC, etn, e1]
          exact ⟨_, Nat.sub_lt_sub_left hkn (Nat.lt_succ_self k), k + 1, v', _, rfl, by omega, rfl, rfl, x4, o4, by rw [← hro]; exact stepl, hso'⟩
    | run kk b =>
      by_cases hb0 : b = 0#64
      · subst hb0
        have hmay : (Ck.run kk 0#64).may = true := by simp [Ck.may]
        simp (disch := first | assumption | omega | (simp only [push_n, set_n]; done) | (simp only [push_n, set_n]; omega) | fail) only [go_sem, ↓reduceIte, Nat.reduceEqDiff, Nat.reduceAdd, Nat.reduceMul, Int.reduceToNat, Int.reduceAdd, Int.reduceTDiv, Nat.reduceLeDiff, a5, a14, a15, a16, am, gD, hl, Ck.kind]
        refine f49_spec (c := .run kk 0#64) fun h3 x3 => ?_
        have n_x3 := Ext.n_le x3; try simp only [push_n, set_n] at n_x3
        simp (disch := first | assumption | omega | (simp only [push_n, set_n]; done) | (simp only [push_n, set_n]; omega) | fail) only [go_sem, ↓reduceIte, Nat.reduceEqDiff, Nat.reduceAdd, Nat.reduceMul, Int.reduceToNat, Int.reduceAdd, Int.reduceTDiv, Nat.reduceLeDiff, a5, a14, a15, a16, am, gD, hl, Ck.kind, Ck.bits]
        cases hlast : out.getLast? with
        | none =>
          obtain rfl : out = [] := List.getLast?_eq_none_iff.1 hlast
          have hro : rowStep [] k = [] ++ [(k, 1)] := rfl
          have hso' := fin1 hmay
          rw [hro] at hso'
          obtain ⟨v', h4, e1, o4, x4⟩ := app h3 (by repeat (first | assumption | exact Ext.refl _ | refine Ext.push ?_ | refine Ext.set ?_ (by omega) | refine Ext.trans ?_ (by assumption)))
          try simp only [push_n, List.length_nil] at e1
          simp (disch := first | assumption | omega | (simp only [push_n, set_n]; done) | (simp only [push_n, set_n]; omega) | fail) only [go_sem, ↓reduceIte, Nat.reduceEqDiff, Nat.reduceAdd, Nat.reduceMul, Int.reduceToNat, Int.reduceAdd, Int.reduceTDiv, Nat.reduceLeDiff, a5, a14, a15, a16, am, e1, List.length_nil]
          exact ⟨_, Nat.sub_lt_sub_left hkn (Nat.lt_succ_self k), k + 1, v', _, rfl, by omega, rfl, rfl, x4, o4, by simp, hso'⟩
        | some p =>
          obtain ⟨hgl, hne2, hol1⟩ := lastp p hlast
          have hple := rowsSo_le hso p (List.mem_of_getLast? hlast)
          have gv := bound h3 (by repeat (first | assumption | exact Ext.refl _ | refine Ext.push ?_ | refine Ext.set ?_ (by omega) | refine Ext.trans ?_ (by assumption))) hne2
          have pv0 := getAt_part (out.map spanC) 2 ho.all (out.length - 1) 0 1 (spanC p) (by rw [List.getElem?_map, hgl]; rfl) (by decide)
          have pv1 := getAt_part (out.map spanC) 2 ho.all (out.length - 1) 1 1 (spanC p) (by rw [List.getElem?_map, hgl]; rfl) (by decide)
          rw [Nat.add_zero] at pv0
          have etn : ((out.length : Int) - 1).toNat = out.length - 1 := by omega
          by_cases hpk : p.1 + p.2 = k
          · have hro : rowStep out k = out.set (out.length - 1) (p.1, p.2 + 1) := by
              unfold rowStep; simp only [hlast]; rw [if_pos hpk]; exact set_last hlast
            have hso' := fin1 hmay
            rw [hro] at hso'
            obtain ⟨e2, o2⟩ := (ho.ext (h' := h3) (by repeat (first | assumption | exact Ext.refl _ | refine Ext.push ?_ | refine Ext.set ?_ (by omega) | refine Ext.trans ?_ (by assumption)))).put (j := out.length - 1) (o := 1) (vs := [.int .i64 ((p.2 : Int) + 1)]) (by rw [List.getElem?_map, hgl]; rfl) (Nat.le_refl 2)
            simp (disch := first | assumption | omega | (simp only [push_n, set_n]; done) | (simp only [push_n, set_n]; omega) | fail) only [go_sem, ↓reduceIte, Nat.reduceEqDiff, Nat.reduceAdd, Nat.reduceMul, Int.reduceToNat, Int.reduceAdd, Int.reduceTDiv, Nat.reduceLeDiff, a5, a14, a15, a16, am, gv, pv0, pv1, spanC, etn, hol2]
            rw [e2]
            refine ⟨_, Nat.sub_lt_sub_left hkn (Nat.lt_succ_self k), k + 1, v, _, rfl, by omega, hv2.symm, rfl, Ext.set (by repeat (first | assumption | exact Ext.refl _ | refine Ext.push ?_ | refine Ext.set ?_ (by omega) | refine Ext.trans ?_ (by assumption))) (ho.vb_le (by simpa using hne2)).1, ?_, by rw [← hro]; exact stepl, hso'⟩
            rw [List.map_set]
            exact o2
          · have hro : rowStep out k = out ++ [(k, 1)] := by
              unfold rowStep; simp only [hlast]; rw [if_neg hpk]
            have hso' := fin1 hmay
            rw [hro] at hso'
            obtain ⟨v', h4, e1, o4, x4⟩ := app h3 (by repeat (first | assumption | exact Ext.refl _ | refine Ext.push ?_ | refine Ext.set ?_ (by omega) | refine Ext.trans ?_ (by assumption)))
            try simp only [push_n] at e1
            simp (disch := first | assumption | omega | (simp only [push_n, set_n]; done) | (simp only [push_n, set_n]; omega) | fail) only [go_sem, ↓reduceIte, Nat.reduceEqDiff, Nat.reduceAdd, Nat.reduceMul, Int.reduceToNat, Int.reduceAdd, Int.reduceTDiv, Nat.reduceLeDiff, a5, a14, a15, a16, am, gv, pv0, pv1, spanC, etn, e1]
            exact ⟨_, Nat.sub_lt_sub_left hkn (Nat.lt_succ_self k), k + 1, v', _, rfl, by omega, rfl, rfl, x4, o4, by rw [← hro]; exact stepl, hso'⟩
      · have hmay : (Ck.run kk b).may = false := by simp [Ck.may, hb0]
        have hso' := fin0 hmay
        have hd : decide ((Ck.run kk b).kind = 1 ∧ (Ck.run kk b).bits = 0#64) = false := by simp [Ck.kind, Ck.bits, hb0]
        simp (disch := first | assumption | omega | (simp only [push_n, set_n]; done) | (simp only [push_n, set_n]; omega) | fail) only [go_sem, ↓reduceIte, Nat.reduceEqDiff, Nat.reduceAdd, Nat.reduceMul, Int.reduceToNat, Int.reduceAdd, Int.reduceTDiv, Nat.reduceLeDiff, a5, a14, a15, a16, am, gD, hl, Ck.kind]
        refine f49_spec (c := .run kk b) fun h3 x3 => ?_
        have n_x3 := Ext.n_le x3; try simp only [push_n, set_n] at n_x3
        simp (disch := first | assumption | omega | (simp only [push_n, set_n]; done) | (simp only [push_n, set_n]; omega) | fail) only [go_sem, ↓reduceIte, Nat.reduceEqDiff, Nat.reduceAdd, Nat.reduceMul, Int.reduceToNat, Int.reduceAdd, Int.reduceTDiv, Nat.reduceLeDiff, a5, a14, a15, a16, am, gD, hl, hd]
        exact ⟨_, Nat.sub_lt_sub_left hkn (Nat.lt_succ_self k), k + 1, v, out, rfl, by omega, hv2.symm, rfl, by repeat (first | assumption | exact Ext.refl _ | refine Ext.push ?_ | refine Ext.set ?_ (by omega) | refine Ext.trans ?_ (by assumption)), ho.ext (by repeat (first | assumption | exact Ext.refl _ | refine Ext.push ?_ | refine Ext.set ?_ (by omega) | refine Ext.trans ?_ (by assumption))), by omega, hso'⟩
    | huge n =>
      have hmay : ((Ck.huge n)).may = false := rfl
      have hso' := fin0 hmay
      have hd : decide (((Ck.huge n)).kind = 1 ∧ ((Ck.huge n)).bits = 0#64) = false := by simp [Ck.kind]
      simp (disch := first | assumption | omega | (simp only [push_n, set_n]; done) | (simp only [push_n, set_n]; omega) | fail) only [go_sem, ↓reduceIte, Nat.reduceEqDiff, Nat.reduceAdd, Nat.reduceMul, Int.reduceToNat, Int.reduceAdd, Int.reduceTDiv, Nat.reduceLeDiff, a5, a14, a15, a16, am, gD, hl, Ck.kind]
      refine f49_spec (c := (Ck.huge n)) fun h3 x3 => ?_
      have n_x3 := Ext.n_le x3; try simp only [push_n, set_n] at n_x3
      simp (disch := first | assumption | omega | (simp only [push_n, set_n]; done) | (simp only [push_n, set_n]; omega) | fail) only [go_sem, ↓reduceIte, Nat.reduceEqDiff, Nat.reduceAdd, Nat.reduceMul, Int.reduceToNat, Int.reduceAdd, Int.reduceTDiv, Nat.reduceLeDiff, a5, a14, a15, a16, am, gD, hl, hd]
      exact ⟨_, Nat.sub_lt_sub_left hkn (Nat.lt_succ_self k), k + 1, v, out, rfl, by omega, hv2.symm, rfl, by repeat (first | assumption | exact Ext.refl _ | refine Ext.push ?_ | refine Ext.set ?_ (by omega) | refine Ext.trans ?_ (by assumption)), ho.ext (by repeat (first | assumption | exact Ext.refl _ | refine Ext.push ?_ | refine Ext.set ?_ (by omega) | refine Ext.trans ?_ (by assumption))), by omega, hso'⟩
    | tail =>
      have hmay : (Ck.tail).may = false := rfl
      have hso' := fin0 hmay
      have hd : decide ((Ck.tail).kind = 1 ∧ (Ck.tail).bits = 0#64) = false := by simp [Ck.kind]
      simp (disch := first | assumption | omega | (simp only [push_n, set_n]; done) | (simp only [push_n, set_n]; omega) | fail) only [go_sem, ↓reduceIte, Nat.reduceEqDiff, Nat.reduceAdd, Nat.reduceMul, Int.reduceToNat, Int.reduceAdd, Int.reduceTDiv, Nat.reduceLeDiff, a5, a14, a15, a16, am, gD, hl, Ck.kind]
      refine f49_spec (c := Ck.tail) fun h3 x3 => ?_
      have n_x3 := Ext.n_le x3; try simp only [push_n, set_n] at n_x3
      simp (disch := first | assumption | omega | (simp only [push_n, set_n]; done) | (simp only [push_n, set_n]; omega) | fail) only [go_sem, ↓reduceIte, Nat.reduceEqDiff, Nat.reduceAdd, Nat.reduceMul, Int.reduceToNat, Int.reduceAdd, Int.reduceTDiv, Nat.reduceLeDiff, a5, a14, a15, a16, am, gD, hl, hd]
      exact ⟨_, Nat.sub_lt_sub_left hkn (Nat.lt_succ_self k), k + 1, v, out, rfl, by omega, hv2.symm, rfl, by repeat (first | assumption | exact Ext.refl _ | refine Ext.push ?_ | refine Ext.set ?_ (by omega) | refine Ext.trans ?_ (by assumption)), ho.ext (by repeat (first | assumption | exact Ext.refl _ | refine Ext.push ?_ | refine Ext.set ?_ (by omega) | refine Ext.trans ?_ (by assumption))), by omega, hso'⟩
    | log l n =>
      have hmay : ((Ck.log l n)).may = false := rfl
      have hso' := fin0 hmay
      have hd : decide (((Ck.log l n)).kind = 1 ∧ ((Ck.log l n)).bits = 0#64) = false := by simp [Ck.kind]
      simp (disch := first | assumption | omega | (simp only [push_n, set_n]; done) | (simp only [push_n, set_n]; omega) | fail) only [go_sem, ↓reduceIte, Nat.reduceEqDiff, Nat.reduceAdd, Nat.reduceMul, Int.reduceToNat, Int.reduceAdd, Int.reduceTDiv, Nat.reduceLeDiff, a5, a14, a15, a16, am, gD, hl, Ck.kind]
      refine f49_spec (c := (Ck.log l n)) fun h3 x3 => ?_
      have n_x3 := Ext.n_le x3; try simp only [push_n, set_n] at n_x3
      simp (disch := first | assumption | omega | (simp only [push_n, set_n]; done) | (simp only [push_n, set_n]; omega) | fail) only [go_sem, ↓reduceIte, Nat.reduceEqDiff, Nat.reduceAdd, Nat.reduceMul, Int.reduceToNat, Int.reduceAdd, Int.reduceTDiv, Nat.reduceLeDiff, a5, a14, a15, a16, am, gD, hl, hd]
      exact ⟨_, Nat.sub_lt_sub_left hkn (Nat.lt_succ_self k), k + 1, v, out, rfl, by omega, hv2.symm, rfl, by repeat (first | assumption | exact Ext.refl _ | refine Ext.push ?_ | refine Ext.set ?_ (by omega) | refine Ext.trans ?_ (by assumption)), ho.ext (by repeat (first | assumption | exact Ext.refl _ | refine Ext.push ?_ | refine Ext.set ?_ (by omega) | refine Ext.trans ?_ (by assumption))), by omega, hso'⟩
  · obtain rfl : k = cs.length := by omega
    simp (disch := first | assumption | omega | (simp only [push_n, set_n]; done) | (simp only [push_n, set_n]; omega) | fail) only [go_sem, ↓reduceIte, Nat.reduceEqDiff, Nat.reduceAdd, Nat.reduceMul, Int.reduceToNat, Int.reduceAdd, Int.reduceTDiv, Nat.reduceLeDiff, a5, a14, a15, a16, am]
    have := rowsSo_end (fs := cs.map Ck.may) (by simpa using hso)
    rw [this] at q
    exact q _ _ (x1.trans x2) (ho.low n_x1)
end Go.Am.YtdcppkhobfbpeaaDoor
