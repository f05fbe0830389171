/-
  What the functions that go through bits answer.
-/
import Derived.Test.YtdcppkhobfbpeaaDoorD1
set_option linter.unusedVariables false
set_option linter.unusedSimpArgs false
namespace Go.Am.YtdcppkhobfbpeaaDoor
open Go Go.Am Go.Proofs

theorem bit_test {w : BitVec 64} {k : Nat} : decide (w >>> k &&& 1#64 = 1#64) = w.getLsbD k := by
  have h1 : ∀ x : BitVec 64, (x &&& 1#64 = 1#64) ↔ x.getLsbD 0 = true := by
    intro x
    constructor
    · intro h
      have := congrArg (fun y : BitVec 64 => y.getLsbD 0) h
      simpa using this
    · intro h
      apply BitVec.eq_of_getLsbD_eq
      intro i hi
      by_cases h0 : i = 0
      · subst h0; simp [h]
      · rw [BitVec.getLsbD_and]
        have : (1#64).getLsbD i = false := by
          rw [Bool.eq_false_iff]
          simp [BitVec.getLsbD_ofNat, Nat.testBit_one_eq_true_iff_self_eq_zero, h0]
        simp [this]
  rw [Bool.eq_iff_iff, decide_eq_true_iff, h1]
  simp

theorem f91_spec {h : Heap} {Q : Value → Heap → Prop} {yv : Value} {bm bw many : Nat} {w : BitVec 64} (hm : many ≤ 64) (I : Nat → Heap → Prop) (h0 : I 0 h)
    (hI : ∀ k h', I k h' → (∃ e ro, h'.get bm = .cells [.int .i64 many] e ro) ∧ ∃ e ro, h'.get bw = .cells [ub w] e ro)
    (step : ∀ k h', k < many → I k h' → if w.getLsbD k = true then WC T yv [.int .i64 k] h' (fun v h'' => (v = .bool true ∧ I (k + 1) h'') ∨ (v = .bool false ∧ Q (.tuple #[]) h'')) else I (k + 1) h')
    (fin : ∀ h', I many h' → Q (.tuple #[]) h') : WC T (.func (.func 91) #[] #[.pointer (some ⟨bm, 0, none⟩), .pointer (some ⟨bw, 0, none⟩)]) [yv] h Q := by
  refine WC_clo (u := []) (v := [_, _]) T91 rfl ?_
  obtain ⟨⟨e1, r1, hm0⟩, e2, r2, hw0⟩ := hI 0 h h0
  simp (disch := first | assumption | omega | (simp only [push_n, set_n]; done) | (simp only [push_n, set_n]; omega) | fail) only [go_sem, ↓reduceIte, Nat.reduceEqDiff, Nat.reduceAdd, Nat.reduceMul, Int.reduceToNat, Int.reduceAdd, Int.reduceTDiv, Nat.reduceLeDiff, ir91, hm0]
  refine f92_spec (by omega) (by omega) ?_
  simp (disch := first | assumption | omega | (simp only [push_n, set_n]; done) | (simp only [push_n, set_n]; omega) | fail) only [go_sem, ↓reduceIte, Nat.reduceEqDiff, Nat.reduceAdd, Nat.reduceMul, Int.reduceToNat, Int.reduceAdd, Int.reduceTDiv, Nat.reduceLeDiff]
  refine WE_loop (fun m a h => ∃ k : Nat, m = many - k ∧ k ≤ many ∧ a.get 0 = yv ∧ a.get 1 = .pointer (some ⟨bm, 0, none⟩) ∧ a.get 2 = .pointer (some ⟨bw, 0, none⟩) ∧ a.get 6 = .int .i64 many ∧ a.get 7 = .int .i64 k ∧ a.marks = [] ∧ I k h) ?_ (m := many) ⟨0, by omega, by omega, by simp (disch := first | assumption | omega | (simp only [push_n, set_n]; done) | (simp only [push_n, set_n]; omega) | fail) only [go_sem, ↓reduceIte, Nat.reduceEqDiff, Nat.reduceAdd, Nat.reduceMul, Int.reduceToNat, Int.reduceAdd, Int.reduceTDiv, Nat.reduceLeDiff], by simp (disch := first | assumption | omega | (simp only [push_n, set_n]; done) | (simp only [push_n, set_n]; omega) | fail) only [go_sem, ↓reduceIte, Nat.reduceEqDiff, Nat.reduceAdd, Nat.reduceMul, Int.reduceToNat, Int.reduceAdd, Int.reduceTDiv, Nat.reduceLeDiff], by simp (disch := first | assumption | omega | (simp only [push_n, set_n]; done) | (simp only [push_n, set_n]; omega) | fail) only [go_sem, ↓reduceIte, Nat.reduceEqDiff, Nat.reduceAdd, Nat.reduceMul, Int.reduceToNat, Int.reduceAdd, Int.reduceTDiv, Nat.reduceLeDiff], by simp (disch := first | assumption | omega | (simp only [push_n, set_n]; done) | (simp only [push_n, set_n]; omega) | fail) only [go_sem, ↓reduceIte, Nat.reduceEqDiff, Nat.reduceAdd, Nat.reduceMul, Int.reduceToNat, Int.reduceAdd, Int.reduceTDiv, Nat.reduceLeDiff], by simp (disch := first | assumption | omega | (simp only [push_n, set_n]; done) | (simp only [push_n, set_n]; omega) | fail) only [go_sem, ↓reduceIte, Nat.reduceEqDiff, Nat.reduceAdd, Nat.reduceMul, Int.reduceToNat, Int.reduceAdd, Int.reduceTDiv, Nat.reduceLeDiff], rfl, h0⟩
  rintro m a h1 ⟨k, rfl, hk, a0, a1, a2, a6, a7, am, hIk⟩
  obtain ⟨⟨e3, r3, hm1⟩, e4, r4, hw1⟩ := hI k h1 hIk
  by_cases hkm : k < many
  · have hst := step k h1 hkm hIk
    by_cases hb : w.getLsbD k = true
    · rw [if_pos hb] at hst
      simp (disch := first | assumption | omega | (simp only [push_n, set_n]; done) | (simp only [push_n, set_n]; omega) | fail) only [go_sem, ↓reduceIte, Nat.reduceEqDiff, Nat.reduceAdd, Nat.reduceMul, Int.reduceToNat, Int.reduceAdd, Int.reduceTDiv, Nat.reduceLeDiff, a0, a1, a2, a6, a7, am, hw1, bit_test, hb]
      refine WC.mono ?_ hst
      rintro v h2 (⟨rfl, hI2⟩ | ⟨rfl, hq⟩)
      · simp (disch := first | assumption | omega | (simp only [push_n, set_n]; done) | (simp only [push_n, set_n]; omega) | fail) only [go_sem, ↓reduceIte, Nat.reduceEqDiff, Nat.reduceAdd, Nat.reduceMul, Int.reduceToNat, Int.reduceAdd, Int.reduceTDiv, Nat.reduceLeDiff, a0, a1, a2, a6, a7, am]
        exact ⟨_, Nat.sub_lt_sub_left hkm (Nat.lt_succ_self k), k + 1, rfl, by omega, rfl, hI2⟩
      · simp (disch := first | assumption | omega | (simp only [push_n, set_n]; done) | (simp only [push_n, set_n]; omega) | fail) only [go_sem, ↓reduceIte, Nat.reduceEqDiff, Nat.reduceAdd, Nat.reduceMul, Int.reduceToNat, Int.reduceAdd, Int.reduceTDiv, Nat.reduceLeDiff, a0, a1, a2, a6, a7, am]
        exact hq
    · rw [if_neg hb] at hst
      simp only [Bool.not_eq_true] at hb
      simp (disch := first | assumption | omega | (simp only [push_n, set_n]; done) | (simp only [push_n, set_n]; omega) | fail) only [go_sem, ↓reduceIte, Nat.reduceEqDiff, Nat.reduceAdd, Nat.reduceMul, Int.reduceToNat, Int.reduceAdd, Int.reduceTDiv, Nat.reduceLeDiff, a0, a1, a2, a6, a7, am, hw1, bit_test, hb]
      exact ⟨_, Nat.sub_lt_sub_left hkm (Nat.lt_succ_self k), k + 1, rfl, by omega, rfl, hst⟩
  · obtain rfl : k = many := by omega
    simp (disch := first | assumption | omega | (simp only [push_n, set_n]; done) | (simp only [push_n, set_n]; omega) | fail) only [go_sem, ↓reduceIte, Nat.reduceEqDiff, Nat.reduceAdd, Nat.reduceMul, Int.reduceToNat, Int.reduceAdd, Int.reduceTDiv, Nat.reduceLeDiff, a0, a1, a2, a6, a7, am]
    exact fin _ hIk

/-- The first place below a bound whose bit is as asked. -/
def firstBit (w : BitVec 64) (many : Nat) : Int := match (List.range many).find? (fun k => w.getLsbD k) with | some k => k | none => -1

theorem find_range {p : Nat → Bool} : ∀ {n k : Nat}, k < n → p k = true → (∀ j, j < k → p j = false) → (List.range n).find? p = some k := by
  intro n k hk hp hj
  rw [List.find?_eq_some_iff_getElem]
  exact ⟨hp, k, by simpa using hk, by simp, fun j hj' => by simp [hj j hj']⟩
theorem find_range_none {p : Nat → Bool} {n : Nat} (hj : ∀ j, j < n → p j = false) : (List.range n).find? p = none := by
  rw [List.find?_eq_none]
  intro x hx
  simp [hj x (by simpa using hx)]

theorem f91_first {h : Heap} {Q : Value → Heap → Prop} {yv : Value} {bm bw many : Nat} {w : BitVec 64} {e1 e2 : TypeId} {r1 r2 : Bool} (hm : many ≤ 64)
    (hbm : h.get bm = .cells [.int .i64 many] e1 r1) (hbw : h.get bw = .cells [ub w] e2 r2)
    (q1 : ∀ k : Nat, k < many → firstBit w many = k → WC T yv [.int .i64 k] h (fun v h'' => v = .bool false ∧ Q (.tuple #[]) h''))
    (q0 : firstBit w many = -1 → Q (.tuple #[]) h) : WC T (.func (.func 91) #[] #[.pointer (some ⟨bm, 0, none⟩), .pointer (some ⟨bw, 0, none⟩)]) [yv] h Q := by
  refine f91_spec (w := w) hm (fun k h' => h' = h ∧ ∀ j, j < k → w.getLsbD j = false) ⟨rfl, fun j hj => by omega⟩ ?_ ?_ ?_
  · rintro k h' ⟨rfl, _⟩
    exact ⟨⟨_, _, hbm⟩, _, _, hbw⟩
  · rintro k h' hk ⟨rfl, hj⟩
    by_cases hb : w.getLsbD k = true
    · rw [if_pos hb]
      refine (q1 k hk ?_).mono fun v h'' hv => .inr hv
      unfold firstBit
      rw [find_range hk hb hj]
    · rw [if_neg hb]
      refine ⟨rfl, fun j hj' => ?_⟩
      by_cases e : j = k
      · subst e; simpa using hb
      · exact hj j (by omega)
  · rintro h' ⟨rfl, hj⟩
    apply q0
    unfold firstBit
    rw [find_range_none hj]

theorem f82_spec {h : Heap} {Q : Value → Heap → Prop} {w : BitVec 64} {many : Nat} (hm : many ≤ 64) (q : ∀ h', Ext h h' → Q (.int .i64 (firstBit (~~~w) many)) h') : WC T (.func (.func 82) #[] #[]) [ub w, .int .i64 many, .bool false] h Q := by
  refine WC_fn T82 rfl ?_
  simp (disch := first | assumption | omega | (simp only [push_n, set_n]; done) | (simp only [push_n, set_n]; omega) | fail) only [go_sem, ↓reduceIte, Nat.reduceEqDiff, Nat.reduceAdd, Nat.reduceMul, Int.reduceToNat, Int.reduceAdd, Int.reduceTDiv, Nat.reduceLeDiff, ir82]
  refine WC_fn T86 rfl ?_
  simp (disch := first | assumption | omega | (simp only [push_n, set_n]; done) | (simp only [push_n, set_n]; omega) | fail) only [go_sem, ↓reduceIte, Nat.reduceEqDiff, Nat.reduceAdd, Nat.reduceMul, Int.reduceToNat, Int.reduceAdd, Int.reduceTDiv, Nat.reduceLeDiff, ir86]
  generalize hA : put _ 14 _ = A
  have A6 : A 6 = .pointer (some ⟨h.n, 0, none⟩) := by rw [← hA]; simp (disch := first | assumption | omega | (simp only [push_n, set_n]; done) | (simp only [push_n, set_n]; omega) | fail) only [go_sem, ↓reduceIte, Nat.reduceEqDiff, Nat.reduceAdd, Nat.reduceMul, Int.reduceToNat, Int.reduceAdd, Int.reduceTDiv, Nat.reduceLeDiff]
  have A14 : A 14 = .func (.func 91) #[] #[.pointer (some ⟨h.n + 1 + 1, 0, none⟩), .pointer (some ⟨h.n + 1, 0, none⟩)] := by rw [← hA]; simp (disch := first | assumption | omega | (simp only [push_n, set_n]; done) | (simp only [push_n, set_n]; omega) | fail) only [go_sem, ↓reduceIte, Nat.reduceEqDiff, Nat.reduceAdd, Nat.reduceMul, Int.reduceToNat, Int.reduceAdd, Int.reduceTDiv, Nat.reduceLeDiff]
  clear hA
  refine WE_rng A14 ?_
  simp (disch := first | assumption | omega | (simp only [push_n, set_n]; done) | (simp only [push_n, set_n]; omega) | fail) only [go_sem, ↓reduceIte, Nat.reduceEqDiff, Nat.reduceAdd, Nat.reduceMul, Int.reduceToNat, Int.reduceAdd, Int.reduceTDiv, Nat.reduceLeDiff]
  refine f91_first (w := ~~~w) (e1 := 3) (r1 := false) (e2 := 45) (r2 := false) hm (by simp (disch := first | assumption | omega | (simp only [push_n, set_n]; done) | (simp only [push_n, set_n]; omega) | fail) only [go_sem, ↓reduceIte, Nat.reduceEqDiff, Nat.reduceAdd, Nat.reduceMul, Int.reduceToNat, Int.reduceAdd, Int.reduceTDiv, Nat.reduceLeDiff]) (by simp (disch := first | assumption | omega | (simp only [push_n, set_n]; done) | (simp only [push_n, set_n]; omega) | fail) only [go_sem, ↓reduceIte, Nat.reduceEqDiff, Nat.reduceAdd, Nat.reduceMul, Int.reduceToNat, Int.reduceAdd, Int.reduceTDiv, Nat.reduceLeDiff]) ?_ ?_
  · intro k hk hf
    refine WC_rnd (get_push_eq (by simp (disch := first | assumption | omega | (simp only [push_n, set_n]; done) | (simp only [push_n, set_n]; omega) | fail) only [go_sem, ↓reduceIte, Nat.reduceEqDiff, Nat.reduceAdd, Nat.reduceMul, Int.reduceToNat, Int.reduceAdd, Int.reduceTDiv, Nat.reduceLeDiff])) (by simp (disch := first | assumption | omega | (simp only [push_n, set_n]; done) | (simp only [push_n, set_n]; omega) | fail) only [go_sem, ↓reduceIte, Nat.reduceEqDiff, Nat.reduceAdd, Nat.reduceMul, Int.reduceToNat, Int.reduceAdd, Int.reduceTDiv, Nat.reduceLeDiff]; rfl) ?_
    simp (disch := first | assumption | omega | (simp only [push_n, set_n]; done) | (simp only [push_n, set_n]; omega) | fail) only [go_sem, ↓reduceIte, Nat.reduceEqDiff, Nat.reduceAdd, Nat.reduceMul, Int.reduceToNat, Int.reduceAdd, Int.reduceTDiv, Nat.reduceLeDiff, A6]
    rw [hf] at q
    exact q _ (by repeat (first | assumption | exact Ext.refl _ | refine Ext.push ?_ | refine Ext.set ?_ (by omega) | refine Ext.trans ?_ (by assumption)))
  · intro hf
    simp (disch := first | assumption | omega | (simp only [push_n, set_n]; done) | (simp only [push_n, set_n]; omega) | fail) only [go_sem, ↓reduceIte, Nat.reduceEqDiff, Nat.reduceAdd, Nat.reduceMul, Int.reduceToNat, Int.reduceAdd, Int.reduceTDiv, Nat.reduceLeDiff, A6]
    rw [hf] at q
    exact q _ (by repeat (first | assumption | exact Ext.refl _ | refine Ext.push ?_ | refine Ext.set ?_ (by omega) | refine Ext.trans ?_ (by assumption)))

/-- The places below a bound whose bits are set. -/
def bitsL (w : BitVec 64) (many : Nat) : List Nat := (List.range many).filter (fun k => w.getLsbD k)
def iv (k : Nat) : List Value := [.int .i64 k]
theorem bitsL_succ {w : BitVec 64} {k : Nat} : bitsL w (k + 1) = if w.getLsbD k = true then bitsL w k ++ [k] else bitsL w k := by
  unfold bitsL
  rw [List.range_succ, List.filter_append]
  by_cases hb : w.getLsbD k = true <;> simp [hb]
theorem bitsL_length {w : BitVec 64} {k : Nat} : (bitsL w k).length ≤ k := by
  unfold bitsL
  exact Nat.le_trans (List.length_filter_le _ _) (by simp)

theorem f90_spec {h : Heap} {Q : Value → Heap → Prop} {bm bw many : Nat} {w : BitVec 64} {e1 e2 : TypeId} {r1 r2 : Bool} (hm : many ≤ 64)
    (hbm : h.get bm = .cells [.int .i64 many] e1 r1) (hbw : h.get bw = .cells [ub w] e2 r2) (lm : bm < h.n) (lw : bw < h.n)
    (q : ∀ v h', Ext h h' → OS h' 3 1 h.n v ((bitsL w many).map iv) → Q v h') : WC T (.func (.func 90) #[] #[]) [.slice none 0 0, .func (.func 91) #[] #[.pointer (some ⟨bm, 0, none⟩), .pointer (some ⟨bw, 0, none⟩)]] h Q := by
  refine WC_fn T90 rfl ?_
  simp (disch := first | assumption | omega | (simp only [push_n, set_n]; done) | (simp only [push_n, set_n]; omega) | fail) only [go_sem, ↓reduceIte, Nat.reduceEqDiff, Nat.reduceAdd, Nat.reduceMul, Int.reduceToNat, Int.reduceAdd, Int.reduceTDiv, Nat.reduceLeDiff, ir90]
  generalize hA : put _ 6 _ = A
  have A2 : A 2 = .pointer (some ⟨h.n, 0, none⟩) := by rw [← hA]; simp (disch := first | assumption | omega | (simp only [push_n, set_n]; done) | (simp only [push_n, set_n]; omega) | fail) only [go_sem, ↓reduceIte, Nat.reduceEqDiff, Nat.reduceAdd, Nat.reduceMul, Int.reduceToNat, Int.reduceAdd, Int.reduceTDiv, Nat.reduceLeDiff]
  have A6 : A 6 = .func (.func 91) #[] #[.pointer (some ⟨bm, 0, none⟩), .pointer (some ⟨bw, 0, none⟩)] := by rw [← hA]; simp (disch := first | assumption | omega | (simp only [push_n, set_n]; done) | (simp only [push_n, set_n]; omega) | fail) only [go_sem, ↓reduceIte, Nat.reduceEqDiff, Nat.reduceAdd, Nat.reduceMul, Int.reduceToNat, Int.reduceAdd, Int.reduceTDiv, Nat.reduceLeDiff]
  clear hA
  refine WE_rng A6 ?_
  simp (disch := first | assumption | omega | (simp only [push_n, set_n]; done) | (simp only [push_n, set_n]; omega) | fail) only [go_sem, ↓reduceIte, Nat.reduceEqDiff, Nat.reduceAdd, Nat.reduceMul, Int.reduceToNat, Int.reduceAdd, Int.reduceTDiv, Nat.reduceLeDiff]
  refine f91_spec (w := w) hm (fun k h' => h.n + 3 ≤ h'.n ∧ (∀ i, i < h.n → h'.get i = h.get i) ∧ h'.get (h.n + 1) = .defer ∧ h'.get (h.n + 1 + 1) = _ ∧ ∃ v, h'.get h.n = .cells [v] 110 false ∧ OS h' 3 1 (h.n + 3) v ((bitsL w k).map iv)) ⟨?_, ?_, ?_, get_push_eq (by simp (disch := first | assumption | omega | (simp only [push_n, set_n]; done) | (simp only [push_n, set_n]; omega) | fail) only [go_sem, ↓reduceIte, Nat.reduceEqDiff, Nat.reduceAdd, Nat.reduceMul, Int.reduceToNat, Int.reduceAdd, Int.reduceTDiv, Nat.reduceLeDiff]), ?_⟩ ?_ ?_ ?_
  · (first | omega | (simp only [push_n, set_n]; done) | (simp only [push_n, set_n]; omega))
  · intro i hi
    simp (disch := first | assumption | omega | (simp only [push_n, set_n]; done) | (simp only [push_n, set_n]; omega) | fail) only [go_sem, ↓reduceIte, Nat.reduceEqDiff, Nat.reduceAdd, Nat.reduceMul, Int.reduceToNat, Int.reduceAdd, Int.reduceTDiv, Nat.reduceLeDiff]
  · simp (disch := first | assumption | omega | (simp only [push_n, set_n]; done) | (simp only [push_n, set_n]; omega) | fail) only [go_sem, ↓reduceIte, Nat.reduceEqDiff, Nat.reduceAdd, Nat.reduceMul, Int.reduceToNat, Int.reduceAdd, Int.reduceTDiv, Nat.reduceLeDiff]
  · refine ⟨.slice none 0 0, ?_, ?_⟩
    · simp (disch := first | assumption | omega | (simp only [push_n, set_n]; done) | (simp only [push_n, set_n]; omega) | fail) only [go_sem, ↓reduceIte, Nat.reduceEqDiff, Nat.reduceAdd, Nat.reduceMul, Int.reduceToNat, Int.reduceAdd, Int.reduceTDiv, Nat.reduceLeDiff]
    · exact OS.nil
  · rintro k h' ⟨n1, g1, _⟩
    exact ⟨⟨_, _, (g1 bm lm).trans hbm⟩, _, _, (g1 bw lw).trans hbw⟩
  · rintro k h' hk ⟨n1, g1, g2, g3, v, g4, o1⟩
    rw [bitsL_succ]
    split
    · rename_i hb
      rw [List.map_append]
      have hfar : ∀ (l : List (List Value)) (w : Value) (H : Heap), OS H 3 1 (h.n + 3) w l → ∀ i, i < h.n + 3 → l ≠ [] → i ≠ vb w := fun l w H o i hi hne => by
        have := o.vb_le hne; omega
      refine WC_rnd g3 (by simp (disch := first | assumption | omega | (simp only [push_n, set_n]; done) | (simp only [push_n, set_n]; omega) | fail) only [go_sem, ↓reduceIte, Nat.reduceEqDiff, Nat.reduceAdd, Nat.reduceMul, Int.reduceToNat, Int.reduceAdd, Int.reduceTDiv, Nat.reduceLeDiff]; rfl) ?_
      simp (disch := first | assumption | omega | (simp only [push_n, set_n]; done) | (simp only [push_n, set_n]; omega) | fail) only [go_sem, ↓reduceIte, Nat.reduceEqDiff, Nat.reduceAdd, Nat.reduceMul, Int.reduceToNat, Int.reduceAdd, Int.reduceTDiv, Nat.reduceLeDiff, A2, g3, g4]
      generalize hH : Heap.push (Heap.set h' _ _) _ = H2
      have nH : H2.n = h'.n + 1 := by rw [← hH]; simp (disch := first | assumption | omega | (simp only [push_n, set_n]; done) | (simp only [push_n, set_n]; omega) | fail) only [go_sem, ↓reduceIte, Nat.reduceEqDiff, Nat.reduceAdd, Nat.reduceMul, Int.reduceToNat, Int.reduceAdd, Int.reduceTDiv, Nat.reduceLeDiff]
      have Gl := congrArg (fun H : Heap => H.get (h.n + 1 + 1)) hH.symm
      simp (disch := first | assumption | omega | (simp only [push_n, set_n]; done) | (simp only [push_n, set_n]; omega) | fail) only [go_sem, ↓reduceIte, Nat.reduceEqDiff, Nat.reduceAdd, Nat.reduceMul, Int.reduceToNat, Int.reduceAdd, Int.reduceTDiv, Nat.reduceLeDiff] at Gl
      have GH : ∀ i, i < h'.n → i ≠ h.n + 1 + 1 → H2.get i = h'.get i := fun i hi hne => by rw [← hH]; simp (disch := first | assumption | omega | (simp only [push_n, set_n]; done) | (simp only [push_n, set_n]; omega) | fail) only [go_sem, ↓reduceIte, Nat.reduceEqDiff, Nat.reduceAdd, Nat.reduceMul, Int.reduceToNat, Int.reduceAdd, Int.reduceTDiv, Nat.reduceLeDiff]
      have GB : H2.get h'.n = .cells [.int .i64 k] 3 false := by rw [← hH]; simp (disch := first | assumption | omega | (simp only [push_n, set_n]; done) | (simp only [push_n, set_n]; omega) | fail) only [go_sem, ↓reduceIte, Nat.reduceEqDiff, Nat.reduceAdd, Nat.reduceMul, Int.reduceToNat, Int.reduceAdd, Int.reduceTDiv, Nat.reduceLeDiff]
      clear hH
      obtain ⟨v', h2, e1, o3, n2, g5, b2⟩ := (o1.mono (h' := H2) (by omega) (fun i hi hi2 => GH i hi2 (by omega))).app (bytes := 8) (B := h'.n) GB rfl (by omega) (by decide) (by simp; have := @bitsL_length w k; omega)
      have G : ∀ i, i < h.n + 3 → h2.get i = H2.get i := fun i hi => g5 i (by omega) (hfar _ _ _ o1 i hi)
      rw [← G _ (by omega)] at Gl
      have Gb := (G h.n (by omega)).trans ((GH _ (by omega) (by omega)).trans g4)
      have Gd := (G (h.n + 1) (by omega)).trans ((GH _ (by omega) (by omega)).trans g2)
      simp (disch := first | assumption | omega | (simp only [push_n, set_n]; done) | (simp only [push_n, set_n]; omega) | fail) only [go_sem, ↓reduceIte, Nat.reduceEqDiff, Nat.reduceAdd, Nat.reduceMul, Int.reduceToNat, Int.reduceAdd, Int.reduceTDiv, Nat.reduceLeDiff, A2, e1, o3.vc, Gb, Gl]
      refine .inl ⟨?_, ?_, Gd, ?_⟩
      · omega
      · intro i hi
        have := (G i (by omega)).trans ((GH i (by omega) (by omega)).trans (g1 i hi))
        simp (disch := first | assumption | omega | (simp only [push_n, set_n]; done) | (simp only [push_n, set_n]; omega) | fail) only [go_sem, ↓reduceIte, Nat.reduceEqDiff, Nat.reduceAdd, Nat.reduceMul, Int.reduceToNat, Int.reduceAdd, Int.reduceTDiv, Nat.reduceLeDiff, this]
      · exact ⟨v', rfl, o3.mono (by (first | omega | (simp only [push_n, set_n]; done) | (simp only [push_n, set_n]; omega))) (fun i hi hi2 => by simp (disch := first | assumption | omega | (simp only [push_n, set_n]; done) | (simp only [push_n, set_n]; omega) | fail) only [go_sem, ↓reduceIte, Nat.reduceEqDiff, Nat.reduceAdd, Nat.reduceMul, Int.reduceToNat, Int.reduceAdd, Int.reduceTDiv, Nat.reduceLeDiff])⟩
    · exact ⟨n1, g1, g2, g3, v, g4, o1⟩
  · rintro h' ⟨n1, g1, g2, g3, v, g4, o1⟩
    simp (disch := first | assumption | omega | (simp only [push_n, set_n]; done) | (simp only [push_n, set_n]; omega) | fail) only [go_sem, ↓reduceIte, Nat.reduceEqDiff, Nat.reduceAdd, Nat.reduceMul, Int.reduceToNat, Int.reduceAdd, Int.reduceTDiv, Nat.reduceLeDiff, A2, g2, g3, g4]
    refine q _ _ ⟨?_, ?_⟩ ?_
    · (first | omega | (simp only [push_n, set_n]; done) | (simp only [push_n, set_n]; omega))
    · intro i hi
      simp (disch := first | assumption | omega | (simp only [push_n, set_n]; done) | (simp only [push_n, set_n]; omega) | fail) only [go_sem, ↓reduceIte, Nat.reduceEqDiff, Nat.reduceAdd, Nat.reduceMul, Int.reduceToNat, Int.reduceAdd, Int.reduceTDiv, Nat.reduceLeDiff, g1 i hi]
    · exact (o1.mono (by (first | omega | (simp only [push_n, set_n]; done) | (simp only [push_n, set_n]; omega))) (fun i hi hi2 => by simp (disch := first | assumption | omega | (simp only [push_n, set_n]; done) | (simp only [push_n, set_n]; omega) | fail) only [go_sem, ↓reduceIte, Nat.reduceEqDiff, Nat.reduceAdd, Nat.reduceMul, Int.reduceToNat, Int.reduceAdd, Int.reduceTDiv, Nat.reduceLeDiff])).low (by omega)

theorem f79_spec {h : Heap} {Q : Value → Heap → Prop} {many : Nat} {w : BitVec 64} (hm : many ≤ 64)
    (q : ∀ v h', Ext h h' → OS h' 3 1 h.n v ((bitsL w many).map iv) → Q v h') : WC T (.func (.func 79) #[] #[]) [ub w, .int .i64 many] h Q := by
  refine WC_fn T79 rfl ?_
  simp (disch := first | assumption | omega | (simp only [push_n, set_n]; done) | (simp only [push_n, set_n]; omega) | fail) only [go_sem, ↓reduceIte, Nat.reduceEqDiff, Nat.reduceAdd, Nat.reduceMul, Int.reduceToNat, Int.reduceAdd, Int.reduceTDiv, Nat.reduceLeDiff, ir79]
  refine WC_fn T86 rfl ?_
  simp (disch := first | assumption | omega | (simp only [push_n, set_n]; done) | (simp only [push_n, set_n]; omega) | fail) only [go_sem, ↓reduceIte, Nat.reduceEqDiff, Nat.reduceAdd, Nat.reduceMul, Int.reduceToNat, Int.reduceAdd, Int.reduceTDiv, Nat.reduceLeDiff, ir86]
  refine WC_fn T85 rfl ?_
  simp (disch := first | assumption | omega | (simp only [push_n, set_n]; done) | (simp only [push_n, set_n]; omega) | fail) only [go_sem, ↓reduceIte, Nat.reduceEqDiff, Nat.reduceAdd, Nat.reduceMul, Int.reduceToNat, Int.reduceAdd, Int.reduceTDiv, Nat.reduceLeDiff, ir85]
  refine f90_spec (w := w) (e1 := 3) (r1 := false) (e2 := 45) (r2 := false) hm (by simp (disch := first | assumption | omega | (simp only [push_n, set_n]; done) | (simp only [push_n, set_n]; omega) | fail) only [go_sem, ↓reduceIte, Nat.reduceEqDiff, Nat.reduceAdd, Nat.reduceMul, Int.reduceToNat, Int.reduceAdd, Int.reduceTDiv, Nat.reduceLeDiff]) (by simp (disch := first | assumption | omega | (simp only [push_n, set_n]; done) | (simp only [push_n, set_n]; omega) | fail) only [go_sem, ↓reduceIte, Nat.reduceEqDiff, Nat.reduceAdd, Nat.reduceMul, Int.reduceToNat, Int.reduceAdd, Int.reduceTDiv, Nat.reduceLeDiff]) (by (first | omega | (simp only [push_n, set_n]; done) | (simp only [push_n, set_n]; omega))) (by (first | omega | (simp only [push_n, set_n]; done) | (simp only [push_n, set_n]; omega))) ?_
  intro v h' hx o
  simp (disch := first | assumption | omega | (simp only [push_n, set_n]; done) | (simp only [push_n, set_n]; omega) | fail) only [go_sem, ↓reduceIte, Nat.reduceEqDiff, Nat.reduceAdd, Nat.reduceMul, Int.reduceToNat, Int.reduceAdd, Int.reduceTDiv, Nat.reduceLeDiff]
  refine q v h' (Ext.trans (by repeat (first | assumption | exact Ext.refl _ | refine Ext.push ?_ | refine Ext.set ?_ (by omega) | refine Ext.trans ?_ (by assumption))) hx) (o.low (by (first | omega | (simp only [push_n, set_n]; done) | (simp only [push_n, set_n]; omega))))
end Go.Am.YtdcppkhobfbpeaaDoor
