/-
  What the small functions answer: the packages of fields and of classes.
-/
import Derived.Test.YtdcppkhobfbpeaaDoorTab
set_option linter.unusedVariables false
set_option linter.unusedSimpArgs false
namespace Go.Am.YtdcppkhobfbpeaaDoor
open Go Go.Am Go.Proofs

theorem f89_spec {h : Heap} {Q : Value → Heap → Prop} {n : Int} (h0 : 1 ≤ n) (h1 : n ≤ 64) (q : Q (ub (BitVec.allOnes 64 >>> (64 - n).toNat)) h) : WC T (.func (.func 89) #[] #[]) [.int .i64 n] h Q := by
  refine WC_fn T89 rfl ?_
  simp (disch := first | assumption | omega | (simp only [push_n, set_n]; done) | (simp only [push_n, set_n]; omega) | fail) only [go_sem, ↓reduceIte, Nat.reduceEqDiff, Nat.reduceAdd, Nat.reduceMul, Int.reduceToNat, Int.reduceAdd, Int.reduceTDiv, Nat.reduceLeDiff, ir89]
  exact q

theorem f88_spec {h : Heap} {Q : Value → Heap → Prop} {x n : Int} (h0 : 0 ≤ x) (h1 : 1 ≤ n) (h2 : n ≤ 64 - x) (h3 : x < 64) (q : Q (.bool true) h) : WC T (.func (.func 88) #[] #[]) [.int .i64 x, .int .i64 n] h Q := by
  refine WC_fn T88 rfl ?_
  simp (disch := first | assumption | omega | (simp only [push_n, set_n]; done) | (simp only [push_n, set_n]; omega) | fail) only [go_sem, ↓reduceIte, Nat.reduceEqDiff, Nat.reduceAdd, Nat.reduceMul, Int.reduceToNat, Int.reduceAdd, Int.reduceTDiv, Nat.reduceLeDiff, ir88]
  exact q

theorem f84_spec {h : Heap} {Q : Value → Heap → Prop} {w : BitVec 64} {x n : Int} (h0 : 0 ≤ x) (h1 : 1 ≤ n) (h2 : n ≤ 64 - x) (h3 : x < 64) (q : Q (ub ((w >>> x.toNat) &&& (BitVec.allOnes 64 >>> (64 - n).toNat))) h) : WC T (.func (.func 84) #[] #[]) [ub w, .int .i64 x, .int .i64 n] h Q := by
  refine WC_fn T84 rfl ?_
  simp (disch := first | assumption | omega | (simp only [push_n, set_n]; done) | (simp only [push_n, set_n]; omega) | fail) only [go_sem, ↓reduceIte, Nat.reduceEqDiff, Nat.reduceAdd, Nat.reduceMul, Int.reduceToNat, Int.reduceAdd, Int.reduceTDiv, Nat.reduceLeDiff, ir84]
  refine f88_spec h0 h1 h2 h3 ?_
  simp (disch := first | assumption | omega | (simp only [push_n, set_n]; done) | (simp only [push_n, set_n]; omega) | fail) only [go_sem, ↓reduceIte, Nat.reduceEqDiff, Nat.reduceAdd, Nat.reduceMul, Int.reduceToNat, Int.reduceAdd, Int.reduceTDiv, Nat.reduceLeDiff]
  refine f89_spec h1 (by omega) ?_
  simp (disch := first | assumption | omega | (simp only [push_n, set_n]; done) | (simp only [push_n, set_n]; omega) | fail) only [go_sem, ↓reduceIte, Nat.reduceEqDiff, Nat.reduceAdd, Nat.reduceMul, Int.reduceToNat, Int.reduceAdd, Int.reduceTDiv, Nat.reduceLeDiff]
  exact q

theorem f87_spec {h : Heap} {Q : Value → Heap → Prop} {w v : BitVec 64} {x n : Int} (h0 : 0 ≤ x) (h1 : 1 ≤ n) (h2 : n ≤ 64 - x) (h3 : x < 64)
    (q : Q (ub ((w &&& ~~~((BitVec.allOnes 64 >>> (64 - n).toNat) <<< x.toNat)) ||| ((v <<< x.toNat) &&& ((BitVec.allOnes 64 >>> (64 - n).toNat) <<< x.toNat)))) h) : WC T (.func (.func 87) #[] #[]) [ub w, .int .i64 x, .int .i64 n, ub v] h Q := by
  refine WC_fn T87 rfl ?_
  simp (disch := first | assumption | omega | (simp only [push_n, set_n]; done) | (simp only [push_n, set_n]; omega) | fail) only [go_sem, ↓reduceIte, Nat.reduceEqDiff, Nat.reduceAdd, Nat.reduceMul, Int.reduceToNat, Int.reduceAdd, Int.reduceTDiv, Nat.reduceLeDiff, ir87]
  refine f88_spec h0 h1 h2 h3 ?_
  simp (disch := first | assumption | omega | (simp only [push_n, set_n]; done) | (simp only [push_n, set_n]; omega) | fail) only [go_sem, ↓reduceIte, Nat.reduceEqDiff, Nat.reduceAdd, Nat.reduceMul, Int.reduceToNat, Int.reduceAdd, Int.reduceTDiv, Nat.reduceLeDiff]
  refine f89_spec h1 (by omega) ?_
  simp (disch := first | assumption | omega | (simp only [push_n, set_n]; done) | (simp only [push_n, set_n]; omega) | fail) only [go_sem, ↓reduceIte, Nat.reduceEqDiff, Nat.reduceAdd, Nat.reduceMul, Int.reduceToNat, Int.reduceAdd, Int.reduceTDiv, Nat.reduceLeDiff]
  exact q

theorem f92_spec {h : Heap} {Q : Value → Heap → Prop} {n : Int} (h0 : 0 ≤ n) (h1 : n ≤ 64) (q : Q (.int .i64 n) h) : WC T (.func (.func 92) #[] #[]) [.int .i64 n] h Q := by
  refine WC_fn T92 rfl ?_
  simp (disch := first | assumption | omega | (simp only [push_n, set_n]; done) | (simp only [push_n, set_n]; omega) | fail) only [go_sem, ↓reduceIte, Nat.reduceEqDiff, Nat.reduceAdd, Nat.reduceMul, Int.reduceToNat, Int.reduceAdd, Int.reduceTDiv, Nat.reduceLeDiff, ir92]
  exact q

theorem f43_spec {h : Heap} {Q : Value → Heap → Prop} {n : Int} (h0 : 0 ≤ n) (h1 : n ≤ 4096) (q : Q (.bool true) h) : WC T (.func (.func 43) #[] #[]) [.int .i64 n] h Q := by
  refine WC_fn T43 rfl ?_
  simp (disch := first | assumption | omega | (simp only [push_n, set_n]; done) | (simp only [push_n, set_n]; omega) | fail) only [go_sem, ↓reduceIte, Nat.reduceEqDiff, Nat.reduceAdd, Nat.reduceMul, Int.reduceToNat, Int.reduceAdd, Int.reduceTDiv, Nat.reduceLeDiff, ir43]
  exact q
theorem f43_not {h : Heap} {Q : Value → Heap → Prop} {n : Int} (h0 : ¬ (0 ≤ n ∧ n ≤ 4096)) (q : Q (.bool false) h) : WC T (.func (.func 43) #[] #[]) [.int .i64 n] h Q := by
  refine WC_fn T43 rfl ?_
  by_cases h1 : 0 ≤ n
  · simp (disch := first | assumption | omega | (simp only [push_n, set_n]; done) | (simp only [push_n, set_n]; omega) | fail) only [go_sem, ↓reduceIte, Nat.reduceEqDiff, Nat.reduceAdd, Nat.reduceMul, Int.reduceToNat, Int.reduceAdd, Int.reduceTDiv, Nat.reduceLeDiff, ir43]
    exact q
  · simp (disch := first | assumption | omega | (simp only [push_n, set_n]; done) | (simp only [push_n, set_n]; omega) | fail) only [go_sem, ↓reduceIte, Nat.reduceEqDiff, Nat.reduceAdd, Nat.reduceMul, Int.reduceToNat, Int.reduceAdd, Int.reduceTDiv, Nat.reduceLeDiff, ir43]
    exact q
theorem f64_spec {h : Heap} {Q : Value → Heap → Prop} {n : Int} (h0 : 0 ≤ n) (h1 : n ≤ 4096) (q : Q (.int .i64 (n + 2)) h) : WC T (.func (.func 64) #[] #[]) [.int .i64 n] h Q := by
  refine WC_fn T64 rfl ?_
  simp (disch := first | assumption | omega | (simp only [push_n, set_n]; done) | (simp only [push_n, set_n]; omega) | fail) only [go_sem, ↓reduceIte, Nat.reduceEqDiff, Nat.reduceAdd, Nat.reduceMul, Int.reduceToNat, Int.reduceAdd, Int.reduceTDiv, Nat.reduceLeDiff, ir64]
  exact q

/-- The classes' blocks. -/
def blocks (h : Heap) : Prop := 1 < h.n ∧ ∃ e, h.get 0 = .cells [.int .i64 4, .int .i64 8, .int .i64 16] e true

theorem blocks.ext {h h' : Heap} (hb : blocks h) (hx : Ext h h') : blocks h' := ⟨Nat.lt_of_lt_of_le hb.1 hx.1, by rw [hx.2 0 (Nat.lt_of_succ_lt hb.1)]; exact hb.2⟩

/-- Which class a size is of. -/
def clsOf (n : Nat) : Option Nat := if n ≤ 2 then some 0 else if n ≤ 6 then some 1 else if n ≤ 14 then some 2 else none
def clsI (n : Nat) : Int := match clsOf n with | some k => k | none => -1

theorem f42_spec {h : Heap} {Q : Value → Heap → Prop} {n : Nat} (hb : blocks h) (h1 : n ≤ 4096) (q : Q (.int .i64 (clsI n)) h) : WC T (.func (.func 42) #[] #[]) [.int .i64 n] h Q := by
  obtain ⟨_, e, hb⟩ := hb
  refine WC_fn T42 rfl ?_
  simp (disch := first | assumption | omega | (simp only [push_n, set_n]; done) | (simp only [push_n, set_n]; omega) | fail) only [go_sem, ↓reduceIte, Nat.reduceEqDiff, Nat.reduceAdd, Nat.reduceMul, Int.reduceToNat, Int.reduceAdd, Int.reduceTDiv, Nat.reduceLeDiff, ir42]
  refine f43_spec (by omega) (by omega) ?_
  simp (disch := first | assumption | omega | (simp only [push_n, set_n]; done) | (simp only [push_n, set_n]; omega) | fail) only [go_sem, ↓reduceIte, Nat.reduceEqDiff, Nat.reduceAdd, Nat.reduceMul, Int.reduceToNat, Int.reduceAdd, Int.reduceTDiv, Nat.reduceLeDiff, hb]
  refine WE_unroll ?_
  simp (disch := first | assumption | omega | (simp only [push_n, set_n]; done) | (simp only [push_n, set_n]; omega) | fail) only [go_sem, ↓reduceIte, Nat.reduceEqDiff, Nat.reduceAdd, Nat.reduceMul, Int.reduceToNat, Int.reduceAdd, Int.reduceTDiv, Nat.reduceLeDiff]
  refine f64_spec (by omega) (by omega) ?_
  by_cases c0 : n ≤ 2
  · rw [show clsI n = 0 by simp [clsI, clsOf, c0]] at q
    simp (disch := first | assumption | omega | (simp only [push_n, set_n]; done) | (simp only [push_n, set_n]; omega) | fail) only [go_sem, ↓reduceIte, Nat.reduceEqDiff, Nat.reduceAdd, Nat.reduceMul, Int.reduceToNat, Int.reduceAdd, Int.reduceTDiv, Nat.reduceLeDiff]
    exact q
  simp (disch := first | assumption | omega | (simp only [push_n, set_n]; done) | (simp only [push_n, set_n]; omega) | fail) only [go_sem, ↓reduceIte, Nat.reduceEqDiff, Nat.reduceAdd, Nat.reduceMul, Int.reduceToNat, Int.reduceAdd, Int.reduceTDiv, Nat.reduceLeDiff]
  refine WE_unroll ?_
  simp (disch := first | assumption | omega | (simp only [push_n, set_n]; done) | (simp only [push_n, set_n]; omega) | fail) only [go_sem, ↓reduceIte, Nat.reduceEqDiff, Nat.reduceAdd, Nat.reduceMul, Int.reduceToNat, Int.reduceAdd, Int.reduceTDiv, Nat.reduceLeDiff]
  refine f64_spec (by omega) (by omega) ?_
  by_cases c1 : n ≤ 6
  · rw [show clsI n = 1 by simp [clsI, clsOf, c0, c1]] at q
    simp (disch := first | assumption | omega | (simp only [push_n, set_n]; done) | (simp only [push_n, set_n]; omega) | fail) only [go_sem, ↓reduceIte, Nat.reduceEqDiff, Nat.reduceAdd, Nat.reduceMul, Int.reduceToNat, Int.reduceAdd, Int.reduceTDiv, Nat.reduceLeDiff]
    exact q
  simp (disch := first | assumption | omega | (simp only [push_n, set_n]; done) | (simp only [push_n, set_n]; omega) | fail) only [go_sem, ↓reduceIte, Nat.reduceEqDiff, Nat.reduceAdd, Nat.reduceMul, Int.reduceToNat, Int.reduceAdd, Int.reduceTDiv, Nat.reduceLeDiff]
  refine WE_unroll ?_
  simp (disch := first | assumption | omega | (simp only [push_n, set_n]; done) | (simp only [push_n, set_n]; omega) | fail) only [go_sem, ↓reduceIte, Nat.reduceEqDiff, Nat.reduceAdd, Nat.reduceMul, Int.reduceToNat, Int.reduceAdd, Int.reduceTDiv, Nat.reduceLeDiff]
  refine f64_spec (by omega) (by omega) ?_
  by_cases c2 : n ≤ 14
  · rw [show clsI n = 2 by simp [clsI, clsOf, c0, c1, c2]] at q
    simp (disch := first | assumption | omega | (simp only [push_n, set_n]; done) | (simp only [push_n, set_n]; omega) | fail) only [go_sem, ↓reduceIte, Nat.reduceEqDiff, Nat.reduceAdd, Nat.reduceMul, Int.reduceToNat, Int.reduceAdd, Int.reduceTDiv, Nat.reduceLeDiff]
    exact q
  simp (disch := first | assumption | omega | (simp only [push_n, set_n]; done) | (simp only [push_n, set_n]; omega) | fail) only [go_sem, ↓reduceIte, Nat.reduceEqDiff, Nat.reduceAdd, Nat.reduceMul, Int.reduceToNat, Int.reduceAdd, Int.reduceTDiv, Nat.reduceLeDiff]
  refine WE_unroll ?_
  simp (disch := first | assumption | omega | (simp only [push_n, set_n]; done) | (simp only [push_n, set_n]; omega) | fail) only [go_sem, ↓reduceIte, Nat.reduceEqDiff, Nat.reduceAdd, Nat.reduceMul, Int.reduceToNat, Int.reduceAdd, Int.reduceTDiv, Nat.reduceLeDiff]
  rw [show clsI n = -1 by simp [clsI, clsOf, c0, c1, c2]] at q
  exact q
theorem f42_not {h : Heap} {Q : Value → Heap → Prop} {n : Int} (h1 : ¬ (0 ≤ n ∧ n ≤ 4096)) (q : Q (.int .i64 (-1)) h) : WC T (.func (.func 42) #[] #[]) [.int .i64 n] h Q := by
  refine WC_fn T42 rfl ?_
  simp (disch := first | assumption | omega | (simp only [push_n, set_n]; done) | (simp only [push_n, set_n]; omega) | fail) only [go_sem, ↓reduceIte, Nat.reduceEqDiff, Nat.reduceAdd, Nat.reduceMul, Int.reduceToNat, Int.reduceAdd, Int.reduceTDiv, Nat.reduceLeDiff, ir42]
  refine f43_not h1 ?_
  simp (disch := first | assumption | omega | (simp only [push_n, set_n]; done) | (simp only [push_n, set_n]; omega) | fail) only [go_sem, ↓reduceIte, Nat.reduceEqDiff, Nat.reduceAdd, Nat.reduceMul, Int.reduceToNat, Int.reduceAdd, Int.reduceTDiv, Nat.reduceLeDiff]
  exact q

/-- How many chunks a size without a class wants. -/
def chunksOf (n : Nat) : Nat := (n + 33) / 32

theorem f46_spec {h : Heap} {Q : Value → Heap → Prop} {n : Nat} (hb : blocks h) (h1 : n ≤ 4096) (h2 : 14 < n) (q : Q (.int .i64 (chunksOf n)) h) : WC T (.func (.func 46) #[] #[]) [.int .i64 n] h Q := by
  refine WC_fn T46 rfl ?_
  simp (disch := first | assumption | omega | (simp only [push_n, set_n]; done) | (simp only [push_n, set_n]; omega) | fail) only [go_sem, ↓reduceIte, Nat.reduceEqDiff, Nat.reduceAdd, Nat.reduceMul, Int.reduceToNat, Int.reduceAdd, Int.reduceTDiv, Nat.reduceLeDiff, ir46]
  refine f43_spec (by omega) (by omega) ?_
  simp (disch := first | assumption | omega | (simp only [push_n, set_n]; done) | (simp only [push_n, set_n]; omega) | fail) only [go_sem, ↓reduceIte, Nat.reduceEqDiff, Nat.reduceAdd, Nat.reduceMul, Int.reduceToNat, Int.reduceAdd, Int.reduceTDiv, Nat.reduceLeDiff]
  refine f42_spec hb h1 ?_
  rw [show clsI n = -1 by unfold clsI clsOf; rw [if_neg (by omega), if_neg (by omega), if_neg (by omega)]]
  simp (disch := first | assumption | omega | (simp only [push_n, set_n]; done) | (simp only [push_n, set_n]; omega) | fail) only [go_sem, ↓reduceIte, Nat.reduceEqDiff, Nat.reduceAdd, Nat.reduceMul, Int.reduceToNat, Int.reduceAdd, Int.reduceTDiv, Nat.reduceLeDiff]
  refine f64_spec (by omega) (by omega) ?_
  simp (disch := first | assumption | omega | (simp only [push_n, set_n]; done) | (simp only [push_n, set_n]; omega) | fail) only [go_sem, ↓reduceIte, Nat.reduceEqDiff, Nat.reduceAdd, Nat.reduceMul, Int.reduceToNat, Int.reduceAdd, Int.reduceTDiv, Nat.reduceLeDiff]
  rw [show ((n : Int) + 2 + 32 - 1).tdiv 32 = (chunksOf n : Nat) by unfold chunksOf; rw [Int.tdiv_eq_ediv_of_nonneg (by omega)]; omega]
  have hc : chunksOf n ≤ 200 := by unfold chunksOf; omega
  simp (disch := first | assumption | omega | (simp only [push_n, set_n]; done) | (simp only [push_n, set_n]; omega) | fail) only [go_sem, ↓reduceIte, Nat.reduceEqDiff, Nat.reduceAdd, Nat.reduceMul, Int.reduceToNat, Int.reduceAdd, Int.reduceTDiv, Nat.reduceLeDiff]
  exact q

/-- How many words a block of a class has. -/
def blockOf (k : Nat) : Nat := if k = 0 then 4 else if k = 1 then 8 else if k = 2 then 16 else 0
def manyOf (k : Nat) : Nat := if k = 0 then 8 else if k = 1 then 4 else if k = 2 then 2 else 0

theorem f80_spec {h : Heap} {Q : Value → Heap → Prop} {k : Nat} (hb : blocks h) (q : Q (.int .i64 (blockOf k)) h) : WC T (.func (.func 80) #[] #[]) [.int .i64 k] h Q := by
  obtain ⟨_, e, hb⟩ := hb
  refine WC_fn T80 rfl ?_
  by_cases h3 : 3 ≤ k
  · rw [show blockOf k = 0 by unfold blockOf; rw [if_neg (by omega), if_neg (by omega), if_neg (by omega)]] at q
    simp (disch := first | assumption | omega | (simp only [push_n, set_n]; done) | (simp only [push_n, set_n]; omega) | fail) only [go_sem, ↓reduceIte, Nat.reduceEqDiff, Nat.reduceAdd, Nat.reduceMul, Int.reduceToNat, Int.reduceAdd, Int.reduceTDiv, Nat.reduceLeDiff, ir80]
    exact q
  · have hk : k = 0 ∨ k = 1 ∨ k = 2 := by omega
    rcases hk with rfl | rfl | rfl
    all_goals
      simp (disch := first | assumption | omega | (simp only [push_n, set_n]; done) | (simp only [push_n, set_n]; omega) | fail) only [go_sem, ↓reduceIte, Nat.reduceEqDiff, Nat.reduceAdd, Nat.reduceMul, Int.reduceToNat, Int.reduceAdd, Int.reduceTDiv, Nat.reduceLeDiff, ir80, hb]
      exact q
theorem f80_neg {h : Heap} {Q : Value → Heap → Prop} {k : Int} (hk : k < 0) (q : Q (.int .i64 0) h) : WC T (.func (.func 80) #[] #[]) [.int .i64 k] h Q := by
  refine WC_fn T80 rfl ?_
  simp (disch := first | assumption | omega | (simp only [push_n, set_n]; done) | (simp only [push_n, set_n]; omega) | fail) only [go_sem, ↓reduceIte, Nat.reduceEqDiff, Nat.reduceAdd, Nat.reduceMul, Int.reduceToNat, Int.reduceAdd, Int.reduceTDiv, Nat.reduceLeDiff, ir80]
  exact q
theorem f66_spec {h : Heap} {Q : Value → Heap → Prop} {k : Nat} (hb : blocks h) (q : Q (.int .i64 (manyOf k)) h) : WC T (.func (.func 66) #[] #[]) [.int .i64 k] h Q := by
  refine WC_fn T66 rfl ?_
  simp (disch := first | assumption | omega | (simp only [push_n, set_n]; done) | (simp only [push_n, set_n]; omega) | fail) only [go_sem, ↓reduceIte, Nat.reduceEqDiff, Nat.reduceAdd, Nat.reduceMul, Int.reduceToNat, Int.reduceAdd, Int.reduceTDiv, Nat.reduceLeDiff, ir66]
  refine f80_spec hb ?_
  by_cases h3 : 3 ≤ k
  · rw [show manyOf k = 0 by unfold manyOf; rw [if_neg (by omega), if_neg (by omega), if_neg (by omega)]] at q
    rw [show blockOf k = 0 by unfold blockOf; rw [if_neg (by omega), if_neg (by omega), if_neg (by omega)]]
    simp (disch := first | assumption | omega | (simp only [push_n, set_n]; done) | (simp only [push_n, set_n]; omega) | fail) only [go_sem, ↓reduceIte, Nat.reduceEqDiff, Nat.reduceAdd, Nat.reduceMul, Int.reduceToNat, Int.reduceAdd, Int.reduceTDiv, Nat.reduceLeDiff]
    exact q
  · have hk : k = 0 ∨ k = 1 ∨ k = 2 := by omega
    rcases hk with rfl | rfl | rfl
    all_goals
      simp (disch := first | assumption | omega | (simp only [push_n, set_n]; done) | (simp only [push_n, set_n]; omega) | fail) only [go_sem, ↓reduceIte, Nat.reduceEqDiff, Nat.reduceAdd, Nat.reduceMul, Int.reduceToNat, Int.reduceAdd, Int.reduceTDiv, Nat.reduceLeDiff, blockOf]
      exact q
end Go.Am.YtdcppkhobfbpeaaDoor
