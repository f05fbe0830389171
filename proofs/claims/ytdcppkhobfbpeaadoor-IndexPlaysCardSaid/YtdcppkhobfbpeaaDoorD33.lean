/-
  The document's index: whether a chunk may be had; rows.
-/
import Derived.Test.YtdcppkhobfbpeaaDoorD32
set_option linter.unusedVariables false
set_option linter.unusedSimpArgs false
namespace Go.Am.YtdcppkhobfbpeaaDoor
open Go Go.Am Go.Proofs

theorem seq_int {xs ys : Array Value} {o : Nat} {k : IntKind} {a b : Int} {r : List (Nat × Bool)} (hx : xs[o]? = some (.int k a)) (hy : ys[o]? = some (.int k b)) : seqEq xs ys ((o, true) :: r) = if a = b then seqEq xs ys r else some false := by
  rw [seqEq, hx, hy]
  simp only [plainEq, if_true]
  by_cases h : a = b
  · subst h; simp
  · rw [if_neg h]
    have : (a == b) = false := by simpa using h
    rw [this]
def zb (B : Nat → Nat) : Bool := (List.range 8).all fun j => decide (B j = 0)
theorem zb_true {B : Nat → Nat} (h : ∀ j, j < 8 → B j = 0) : zb B = true := by
  unfold zb; rw [List.all_eq_true]; intro j hj; exact decide_eq_true (h j (List.mem_range.1 hj))
theorem zb_false {B : Nat → Nat} (j : Nat) (hj : j < 8) (h : B j ≠ 0) : zb B = false := by
  unfold zb; rw [List.all_eq_false]; exact ⟨j, List.mem_range.2 hj, by simpa using h⟩
theorem blk_seq (B : Nat → Nat) : seqEq #[.int .i64 (B 0), .int .i64 (B 1), .int .i64 (B 2), .int .i64 (B 3), .int .i64 (B 4), .int .i64 (B 5), .int .i64 (B 6), .int .i64 (B 7)] #[.int .i64 0, .int .i64 0, .int .i64 0, .int .i64 0, .int .i64 0, .int .i64 0, .int .i64 0, .int .i64 0]
    [(0, true), (1, true), (2, true), (3, true), (4, true), (5, true), (6, true), (7, true)] = some (zb B) := by
  rw [seq_int (a := B 0) (b := 0) rfl rfl, seq_int (a := B 1) (b := 0) rfl rfl, seq_int (a := B 2) (b := 0) rfl rfl, seq_int (a := B 3) (b := 0) rfl rfl, seq_int (a := B 4) (b := 0) rfl rfl, seq_int (a := B 5) (b := 0) rfl rfl, seq_int (a := B 6) (b := 0) rfl rfl, seq_int (a := B 7) (b := 0) rfl rfl]
  have no : ∀ j, j < 8 → ¬ (B j : Int) = 0 → some false = some (zb B) := fun j hj h => by
    rw [zb_false j hj (by omega)]
  split
  · split
    · split
      · split
        · split
          · split
            · split
              · split
                · rw [zb_true]
                  · rfl
                  · intro j hj
                    have : j = 0 ∨ j = 1 ∨ j = 2 ∨ j = 3 ∨ j = 4 ∨ j = 5 ∨ j = 6 ∨ j = 7 := by omega
                    rcases this with rfl | rfl | rfl | rfl | rfl | rfl | rfl | rfl <;> omega
                · exact no 7 (by decide) (by assumption)
              · exact no 6 (by decide) (by assumption)
            · exact no 5 (by decide) (by assumption)
          · exact no 4 (by decide) (by assumption)
        · exact no 3 (by decide) (by assumption)
      · exact no 2 (by decide) (by assumption)
    · exact no 1 (by decide) (by assumption)
  · exact no 0 (by decide) (by assumption)
theorem lt_bits {b : BitVec 64} {k j : Nat} (h : b.toNat < 2 ^ k) (hj : k ≤ j) : b.getLsbD j = false :=
  Nat.testBit_lt_two_pow (Nat.lt_of_lt_of_le h (Nat.pow_le_pow_right (by decide) hj))
theorem eq_zero_bits {b : BitVec 64} {k : Nat} (h : b.toNat < 2 ^ k) (hk : k ≤ 8) (h0 : ∀ j, j < 8 → b.getLsbD j = false) : b = 0#64 := by
  apply BitVec.eq_of_getLsbD_eq
  intro j hj
  rcases Nat.lt_or_ge j 8 with h1 | h1
  · rw [h0 j h1]; simp
  · rw [lt_bits h (by omega)]; simp
theorem tidy_free {k : Nat} {b t : BitVec 64} (h : Tidy ⟨.run k b, t⟩) : zb (One.blk ⟨.run k b, t⟩) = One.free ⟨.run k b, t⟩ := by
  obtain ⟨hk, hb, ht, _⟩ := h
  have h8 := (many_pos k hk).2
  by_cases hf : b = 0#64 ∧ t = 0#64
  · obtain ⟨rfl, rfl⟩ := hf
    rw [zb_true]
    · simp [One.free]
    · intro j _; simp [One.blk]
  · have e : One.free ⟨.run k b, t⟩ = false := by simp only [One.free]; exact decide_eq_false hf
    rw [e]
    cases hz : zb (One.blk ⟨.run k b, t⟩) with
    | false => rfl
    | true =>
      exfalso
      have hall : ∀ j, j < 8 → One.blk ⟨.run k b, t⟩ j = 0 := fun j hj => by
        unfold zb at hz
        rw [List.all_eq_true] at hz
        simpa using hz j (List.mem_range.2 hj)
      refine hf ⟨eq_zero_bits hb h8 fun j hj => ?_, eq_zero_bits ht h8 fun j hj => ?_⟩
      · have := hall j hj
        unfold One.blk at this
        simp only at this
        split at this
        · cases this
        · rename_i h1; simpa using h1
      · have := hall j hj
        unfold One.blk at this
        simp only at this
        split at this
        · cases this
        · split at this
          · cases this
          · rename_i h1; simpa using h1

theorem f61_spec {h : Heap} {Q : Value → Heap → Prop} {yb lb i : Nat} {l : List One} {o : One} (hi : YX h yb lb l) (ho : l[i]? = some o) (ht : Tidy o)
    (q : ∀ h', Ext h h' → Q (.bool o.free) h') : WC T (.func (.func 61) #[] #[]) [.pointer (some ⟨yb, 0, none⟩), .int .i64 i] h Q := by
  refine WC_fn T61 rfl ?_
  have hil := lt_of_get ho
  have hne : l ≠ [] := by intro e; subst e; simp at hil
  have iy := hi.y
  have il := hi.l hne
  have p0 := ref_part ho 0 14 (by omega)
  rw [Nat.add_zero, ref_all] at p0
  obtain ⟨c, t⟩ := o
  cases c with
  | run k b =>
    have hs := blk_seq (One.blk ⟨.run k b, t⟩)
    rw [tidy_free ht] at hs
    simp (disch := first | assumption | omega | (simp only [push_n, set_n]; done) | (simp only [push_n, set_n]; omega) | fail) only [go_sem, ↓reduceIte, Nat.reduceEqDiff, Nat.reduceAdd, Nat.reduceMul, Int.reduceToNat, Int.reduceAdd, Int.reduceTDiv, Nat.reduceLeDiff, ir61, iy, il, p0, ref_one, ref_put, One.ref, Ck.kind, Ck.cls, Ck.lane, Ck.many, hs]
    exact q _ (by repeat (first | assumption | exact Ext.refl _ | refine Ext.push ?_ | refine Ext.set ?_ (by omega) | refine Ext.trans ?_ (by assumption)))
  | free =>
    simp (disch := first | assumption | omega | (simp only [push_n, set_n]; done) | (simp only [push_n, set_n]; omega) | fail) only [go_sem, ↓reduceIte, Nat.reduceEqDiff, Nat.reduceAdd, Nat.reduceMul, Int.reduceToNat, Int.reduceAdd, Int.reduceTDiv, Nat.reduceLeDiff, ir61, iy, il, p0, ref_one, ref_put, One.ref, Ck.kind, Ck.cls, Ck.lane, Ck.many]
    exact q _ (by repeat (first | assumption | exact Ext.refl _ | refine Ext.push ?_ | refine Ext.set ?_ (by omega) | refine Ext.trans ?_ (by assumption)))
  | tail =>
    simp (disch := first | assumption | omega | (simp only [push_n, set_n]; done) | (simp only [push_n, set_n]; omega) | fail) only [go_sem, ↓reduceIte, Nat.reduceEqDiff, Nat.reduceAdd, Nat.reduceMul, Int.reduceToNat, Int.reduceAdd, Int.reduceTDiv, Nat.reduceLeDiff, ir61, iy, il, p0, ref_one, ref_put, One.ref, Ck.kind, Ck.cls, Ck.lane, Ck.many]
    exact q _ (by repeat (first | assumption | exact Ext.refl _ | refine Ext.push ?_ | refine Ext.set ?_ (by omega) | refine Ext.trans ?_ (by assumption)))
  | huge n =>
    simp (disch := first | assumption | omega | (simp only [push_n, set_n]; done) | (simp only [push_n, set_n]; omega) | fail) only [go_sem, ↓reduceIte, Nat.reduceEqDiff, Nat.reduceAdd, Nat.reduceMul, Int.reduceToNat, Int.reduceAdd, Int.reduceTDiv, Nat.reduceLeDiff, ir61, iy, il, p0, ref_one, ref_put, One.ref, Ck.kind, Ck.cls, Ck.lane, Ck.many]
    exact q _ (by repeat (first | assumption | exact Ext.refl _ | refine Ext.push ?_ | refine Ext.set ?_ (by omega) | refine Ext.trans ?_ (by assumption)))
  | log n n' =>
    simp (disch := first | assumption | omega | (simp only [push_n, set_n]; done) | (simp only [push_n, set_n]; omega) | fail) only [go_sem, ↓reduceIte, Nat.reduceEqDiff, Nat.reduceAdd, Nat.reduceMul, Int.reduceToNat, Int.reduceAdd, Int.reduceTDiv, Nat.reduceLeDiff, ir61, iy, il, p0, ref_one, ref_put, One.ref, Ck.kind, Ck.cls, Ck.lane, Ck.many]
    exact q _ (by repeat (first | assumption | exact Ext.refl _ | refine Ext.push ?_ | refine Ext.set ?_ (by omega) | refine Ext.trans ?_ (by assumption)))

/-- A window of chunks that may be had lies in a row. -/
theorem row_window : ∀ (fs : List Bool) (i m w many : Nat), m ≤ i → 1 ≤ many → i - m ≤ w → w + many ≤ i + fs.length → (∀ j, w ≤ j → j < w + many → i ≤ j → fs[j - i]? = some true) → ∃ i0, i0 ≤ w ∧ rowI (rowsAux i m fs) many = some i0
  | [], i, m, w, many, hm, h1, h2, h3, h4 => by
    simp at h3
    unfold rowsAux
    rw [if_neg (by omega)]
    refine ⟨i - m, h2, ?_⟩
    unfold rowI
    rw [List.find?_cons_of_pos (by simp; omega)]
    rfl
  | true :: r, i, m, w, many, hm, h1, h2, h3, h4 => by
    unfold rowsAux
    refine row_window r (i + 1) (m + 1) w many (by omega) h1 (by omega) (by simp at h3; omega) fun j hj1 hj2 hj3 => ?_
    have := h4 j hj1 hj2 (by omega)
    rw [show j - i = (j - (i + 1)) + 1 by omega] at this
    simpa using this
  | false :: r, i, m, w, many, hm, h1, h2, h3, h4 => by
    unfold rowsAux
    have hout : w + many ≤ i ∨ i + 1 ≤ w := by
      rcases Nat.lt_or_ge i w with h5 | h5
      · right; omega
      · left
        rcases Nat.lt_or_ge i (w + many) with h6 | h6
        · have := h4 i h5 h6 (Nat.le_refl _)
          simp at this
        · exact h6
    have first : ∀ R : List (Nat × Nat), many ≤ m → rowI ((i - m, m) :: R) many = some (i - m) := fun R h5 => by
      unfold rowI
      rw [List.find?_cons_of_pos (by simpa using h5)]; rfl
    rcases hout with h5 | h5
    · rw [if_neg (by omega)]
      exact ⟨i - m, h2, first _ (by omega)⟩
    · have ih := row_window r (i + 1) 0 w many (by omega) h1 (by omega) (by simp at h3; omega) fun j hj1 hj2 hj3 => by
        have := h4 j hj1 hj2 (by omega)
        rw [show j - i = (j - (i + 1)) + 1 by omega] at this
        simpa using this
      split
      · exact ih
      · by_cases h6 : many ≤ m
        · exact ⟨i - m, by omega, first _ h6⟩
        · obtain ⟨i0, h7, h8⟩ := ih
          refine ⟨i0, h7, ?_⟩
          unfold rowI at h8 ⊢
          rw [List.find?_cons_of_neg (by simpa using h6)]
          exact h8
def rowZ (l : List One) (many : Nat) : Int := match rowI (rowsOf (frees l)) many with | some i => i | none => -1
def Win (l : List One) (i many : Nat) : Prop := ∀ j, j < many → (frees l)[i + j]? = some true
theorem rowZ_some {l : List One} {i many : Nat} (h1 : 1 ≤ many) (hw : Win l i many) (hl : i + many ≤ l.length) (hno : ∀ i', i' < i → ¬ Win l i' many) : rowZ l many = i := by
  obtain ⟨i0, h2, h3⟩ := row_window (frees l) 0 0 i many (Nat.le_refl _) h1 (by omega) (by simpa [frees] using hl) fun j hj1 hj2 _ => by
    have := hw (j - i) (by omega)
    rw [show i + (j - i) = j by omega] at this
    exact this
  have h4 : Win l i0 many := fun j hj => rowI_true h3 (i0 + j) (by omega) (by omega)
  have : ¬ i0 < i := fun h5 => hno i0 h5 h4
  unfold rowZ
  rw [show rowI (rowsOf (frees l)) many = some i0 from h3]
  simp only
  omega
theorem rowZ_none {l : List One} {i many : Nat} (h1 : 1 ≤ many) (hl : l.length < i + many) (hno : ∀ i', i' < i → ¬ Win l i' many) : rowZ l many = -1 := by
  unfold rowZ
  cases h3 : rowI (rowsOf (frees l)) many with
  | none => rfl
  | some i0 =>
    have h4 : Win l i0 many := fun j hj => rowI_true h3 (i0 + j) (by omega) (by omega)
    have := (rowI_lt h3).1
    rw [show (frees l).length = l.length by simp [frees]] at this
    exact (hno i0 (by omega) h4).elim
def winB (l : List One) (i many : Nat) : Bool := (List.range many).all fun j => decide ((frees l)[i + j]? = some true)
theorem winB_true {l : List One} {i many : Nat} (h : winB l i many = true) : Win l i many := fun j hj => by
  unfold winB at h; rw [List.all_eq_true] at h
  simpa using h j (List.mem_range.2 hj)
theorem winB_false {l : List One} {i many : Nat} (h : winB l i many = false) : ¬ Win l i many := fun e => by
  unfold winB at h
  rw [List.all_eq_false] at h
  obtain ⟨j, hj, h2⟩ := h
  exact h2 (decide_eq_true (e j (List.mem_range.1 hj)))
theorem winB_succ {l : List One} {i k : Nat} {o : One} (ho : l[i + k]? = some o) : winB l i (k + 1) = (winB l i k && o.free) := by
  unfold winB
  rw [List.range_succ, List.all_append]
  have : (frees l)[i + k]? = some o.free := by unfold frees; rw [List.getElem?_map, ho]; rfl
  simp [this]
theorem free_get {l : List One} {i : Nat} {o : One} (h : l[i]? = some o) : (frees l)[i]? = some o.free := by unfold frees; rw [List.getElem?_map, h]; rfl

theorem f55_spec {h : Heap} {Q : Value → Heap → Prop} {yb lb many : Nat} {l : List One} (hi : YX h yb lb l) (ht : ∀ o ∈ l, Tidy o) (hn : l.length ≤ 1000) (h1 : 1 ≤ many) (h2 : many ≤ 5000)
    (q : ∀ h', Ext h h' → Q (.int .i64 (rowZ l many)) h') : WC T (.func (.func 55) #[] #[]) [.pointer (some ⟨yb, 0, none⟩), .int .i64 many] h Q := by
  refine WC_fn T55 rfl ?_
  simp (disch := first | assumption | omega | (simp only [push_n, set_n]; done) | (simp only [push_n, set_n]; omega) | fail) only [go_sem, ↓reduceIte, Nat.reduceEqDiff, Nat.reduceAdd, Nat.reduceMul, Int.reduceToNat, Int.reduceAdd, Int.reduceTDiv, Nat.reduceLeDiff, ir55]
  refine WE_loop (fun m a h' => ∃ i : Nat, m = l.length + 1 - i ∧ i ≤ l.length ∧ a.get 0 = .pointer (some ⟨yb, 0, none⟩) ∧ a.get 1 = .int .i64 many ∧ a.get 5 = .int .i64 i ∧ a.marks = [] ∧ Ext h h' ∧ ∀ i', i' < i → ¬ Win l i' many) ?_ (m := l.length + 1) ⟨0, by omega, by omega, by simp (disch := first | assumption | omega | (simp only [push_n, set_n]; done) | (simp only [push_n, set_n]; omega) | fail) only [go_sem, ↓reduceIte, Nat.reduceEqDiff, Nat.reduceAdd, Nat.reduceMul, Int.reduceToNat, Int.reduceAdd, Int.reduceTDiv, Nat.reduceLeDiff], by simp (disch := first | assumption | omega | (simp only [push_n, set_n]; done) | (simp only [push_n, set_n]; omega) | fail) only [go_sem, ↓reduceIte, Nat.reduceEqDiff, Nat.reduceAdd, Nat.reduceMul, Int.reduceToNat, Int.reduceAdd, Int.reduceTDiv, Nat.reduceLeDiff], by simp (disch := first | assumption | omega | (simp only [push_n, set_n]; done) | (simp only [push_n, set_n]; omega) | fail) only [go_sem, ↓reduceIte, Nat.reduceEqDiff, Nat.reduceAdd, Nat.reduceMul, Int.reduceToNat, Int.reduceAdd, Int.reduceTDiv, Nat.reduceLeDiff], rfl, Ext.refl _, fun i' hi' => by omega⟩
  rintro m a k1 ⟨i, rfl, hil, a0, a1, a5, am, hx, hno⟩
  have iy := (hi.ext hx).y
  by_cases hin : i + many ≤ l.length
  · simp (disch := first | assumption | omega | (simp only [push_n, set_n]; done) | (simp only [push_n, set_n]; omega) | fail) only [go_sem, ↓reduceIte, Nat.reduceEqDiff, Nat.reduceAdd, Nat.reduceMul, Int.reduceToNat, Int.reduceAdd, Int.reduceTDiv, Nat.reduceLeDiff, a0, a1, a5, am, iy]
    refine WE_loop (fun m a h' => ∃ k : Nat, m = many - k ∧ k ≤ many ∧ a.get 0 = .pointer (some ⟨yb, 0, none⟩) ∧ a.get 1 = .int .i64 many ∧ a.get 5 = .int .i64 i ∧ a.get 6 = .bool (winB l i k) ∧ a.get 7 = .int .i64 k ∧ a.marks = [] ∧ Ext h h') ?_ (m := many)
      ⟨0, by omega, by omega, by simp (disch := first | assumption | omega | (simp only [push_n, set_n]; done) | (simp only [push_n, set_n]; omega) | fail) only [go_sem, ↓reduceIte, Nat.reduceEqDiff, Nat.reduceAdd, Nat.reduceMul, Int.reduceToNat, Int.reduceAdd, Int.reduceTDiv, Nat.reduceLeDiff, a0], by simp (disch := first | assumption | omega | (simp only [push_n, set_n]; done) | (simp only [push_n, set_n]; omega) | fail) only [go_sem, ↓reduceIte, Nat.reduceEqDiff, Nat.reduceAdd, Nat.reduceMul, Int.reduceToNat, Int.reduceAdd, Int.reduceTDiv, Nat.reduceLeDiff, a1], by simp (disch := first | assumption | omega | (simp only [push_n, set_n]; done) | (simp only [push_n, set_n]; omega) | fail) only [go_sem, ↓reduceIte, Nat.reduceEqDiff, Nat.reduceAdd, Nat.reduceMul, Int.reduceToNat, Int.reduceAdd, Int.reduceTDiv, Nat.reduceLeDiff, a5], ?_, by simp (disch := first | assumption | omega | (simp only [push_n, set_n]; done) | (simp only [push_n, set_n]; omega) | fail) only [go_sem, ↓reduceIte, Nat.reduceEqDiff, Nat.reduceAdd, Nat.reduceMul, Int.reduceToNat, Int.reduceAdd, Int.reduceTDiv, Nat.reduceLeDiff], rfl, hx⟩
    · rintro m a2 k2 ⟨k, rfl, hk, c0, c1, c5, c6, c7, cm, hx2⟩
      by_cases hkm : k < many
      · obtain ⟨o, ho⟩ : ∃ o, l[i + k]? = some o := ⟨_, List.getElem?_eq_getElem (by omega)⟩
        simp (disch := first | assumption | omega | (simp only [push_n, set_n]; done) | (simp only [push_n, set_n]; omega) | fail) only [go_sem, ↓reduceIte, Nat.reduceEqDiff, Nat.reduceAdd, Nat.reduceMul, Int.reduceToNat, Int.reduceAdd, Int.reduceTDiv, Nat.reduceLeDiff, c0, c1, c5, c6, c7, cm]
        refine f61_spec (i := i + k) (hi.ext hx2) ho (ht o (List.mem_of_getElem? ho)) fun k3 hx3 => ?_
        have hw := winB_succ ho
        cases hwk : winB l i k with
        | true =>
          rw [hwk] at c6 hw
          rw [Bool.true_and] at hw
          simp (disch := first | assumption | omega | (simp only [push_n, set_n]; done) | (simp only [push_n, set_n]; omega) | fail) only [go_sem, ↓reduceIte, Nat.reduceEqDiff, Nat.reduceAdd, Nat.reduceMul, Int.reduceToNat, Int.reduceAdd, Int.reduceTDiv, Nat.reduceLeDiff, c0, c1, c5, c6, c7, cm]
          exact ⟨_, Nat.sub_lt_sub_left hkm (Nat.lt_succ_self k), k + 1, rfl, by omega, by rw [hw], rfl, hx2.trans hx3⟩
        | false =>
          rw [hwk] at c6 hw
          rw [Bool.false_and] at hw
          simp (disch := first | assumption | omega | (simp only [push_n, set_n]; done) | (simp only [push_n, set_n]; omega) | fail) only [go_sem, ↓reduceIte, Nat.reduceEqDiff, Nat.reduceAdd, Nat.reduceMul, Int.reduceToNat, Int.reduceAdd, Int.reduceTDiv, Nat.reduceLeDiff, c0, c1, c5, c6, c7, cm]
          exact ⟨_, Nat.sub_lt_sub_left hkm (Nat.lt_succ_self k), k + 1, rfl, by omega, by rw [hw], rfl, hx2.trans hx3⟩
      · obtain rfl : k = many := by omega
        cases hwk : winB l i k with
        | true =>
          rw [hwk] at c6
          rw [rowZ_some h1 (winB_true hwk) hin hno] at q
          simp (disch := first | assumption | omega | (simp only [push_n, set_n]; done) | (simp only [push_n, set_n]; omega) | fail) only [go_sem, ↓reduceIte, Nat.reduceEqDiff, Nat.reduceAdd, Nat.reduceMul, Int.reduceToNat, Int.reduceAdd, Int.reduceTDiv, Nat.reduceLeDiff, c0, c1, c5, c6, c7, cm]
          exact q _ hx2
        | false =>
          rw [hwk] at c6
          simp (disch := first | assumption | omega | (simp only [push_n, set_n]; done) | (simp only [push_n, set_n]; omega) | fail) only [go_sem, ↓reduceIte, Nat.reduceEqDiff, Nat.reduceAdd, Nat.reduceMul, Int.reduceToNat, Int.reduceAdd, Int.reduceTDiv, Nat.reduceLeDiff, c0, c1, c5, c6, c7, cm]
          refine ⟨l.length + 1 - (i + 1), by omega, i + 1, rfl, by omega, rfl, hx2, fun i' hi' => ?_⟩
          by_cases e : i' = i
          · subst e; exact winB_false hwk
          · exact hno i' (by omega)
    · simp (disch := first | assumption | omega | (simp only [push_n, set_n]; done) | (simp only [push_n, set_n]; omega) | fail) only [go_sem, ↓reduceIte, Nat.reduceEqDiff, Nat.reduceAdd, Nat.reduceMul, Int.reduceToNat, Int.reduceAdd, Int.reduceTDiv, Nat.reduceLeDiff]
      rfl
  · rw [rowZ_none h1 (by omega) hno] at q
    simp (disch := first | assumption | omega | (simp only [push_n, set_n]; done) | (simp only [push_n, set_n]; omega) | fail) only [go_sem, ↓reduceIte, Nat.reduceEqDiff, Nat.reduceAdd, Nat.reduceMul, Int.reduceToNat, Int.reduceAdd, Int.reduceTDiv, Nat.reduceLeDiff, a0, a1, a5, am, iy]
    exact q _ hx
end Go.Am.YtdcppkhobfbpeaaDoor
