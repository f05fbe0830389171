/-
  The document's index: its table.
-/
import Derived.Test.YtdcppkhobfbpeaaDoorD34
set_option linter.unusedVariables false
set_option linter.unusedSimpArgs false
namespace Go.Am.YtdcppkhobfbpeaaDoor
open Go Go.Am Go.Proofs

/-- Whether a chunk is one of a huge one that is taken. -/
def cov : List One → Nat → Bool
  | [], _ => false
  | o :: _, 0 => o.tkn && decide (0 < o.c.many)
  | o :: r, i + 1 => (o.tkn && decide (i + 1 < o.c.many)) || cov r i
theorem cov_zero {o : One} {r : List One} : cov (o :: r) 0 = (o.tkn && decide (0 < o.c.many)) := rfl
theorem cov_succ {o : One} {r : List One} {i : Nat} : cov (o :: r) (i + 1) = ((o.tkn && decide (i + 1 < o.c.many)) || cov r i) := rfl
def covAt (l : List One) (i k : Nat) : Bool := match l[k]? with
  | some o => o.tkn && decide (i < k + o.c.many)
  | none => false
def covTo (l : List One) (i k : Nat) : Bool := (List.range k).any (covAt l i)
theorem covTo_succ {l : List One} {i k : Nat} {o : One} (h : l[k]? = some o) : covTo l i (k + 1) = (covTo l i k || (o.tkn && decide (i < k + o.c.many))) := by
  unfold covTo
  rw [List.range_succ, List.any_append]
  simp [covAt, h]
theorem covTo_cov : ∀ {l : List One} {i : Nat}, i < l.length → covTo l i (i + 1) = cov l i
  | [], i, h => by simp at h
  | o :: r, 0, h => by
    unfold covTo cov
    simp [covAt]
  | o :: r, i + 1, h => by
    unfold covTo cov
    rw [List.range_succ_eq_map, List.any_cons, List.any_map]
    have : (covAt (o :: r) (i + 1) ∘ Nat.succ) = covAt r i := by
      funext k
      simp only [Function.comp, covAt, List.getElem?_cons_succ, Nat.succ_eq_add_one]
      cases r[k]? with
      | none => rfl
      | some o' =>
        simp only
        congr 1
        by_cases h1 : i < k + o'.c.many
        · rw [decide_eq_true h1, decide_eq_true (by omega)]
        · rw [decide_eq_false h1, decide_eq_false (by omega)]
    rw [this]
    have ih := covTo_cov (l := r) (i := i) (by simpa using h)
    unfold covTo at ih
    rw [ih]
    simp [covAt]
theorem table_get : ∀ {t left : Nat} {l : List One} {i : Nat} {o : One}, rightAux t (l.map One.c) = true → left ≤ t → (∀ o ∈ l, Tidy o) → l[i]? = some o → (tableAux left l)[i]? = some (if decide (i < left) || cov l i then .free else o.c)
  | t, left, [], i, o, _, _, _, h => by simp at h
  | t, left, x :: r, i, o, hr, hl, ht, h => by
    have hx := ht x (by simp)
    rw [List.map_cons] at hr
    have key : ∃ t', rightAux t' (r.map One.c) = true ∧ leftOf left x - 1 ≤ t' ∧ (x.tkn = true → left = 0 ∧ leftOf left x = x.c.many ∧ 1 ≤ x.c.many) ∧ (x.tkn = false → leftOf left x = left) := by
      obtain ⟨c, tt⟩ := x
      simp only at hr
      cases c with
      | tail =>
        simp only [rightAux, Bool.and_eq_true] at hr
        refine ⟨t - 1, hr.2, by simp [leftOf, Ck.kind]; omega, fun e => by simp [One.tkn] at e, fun _ => by simp [leftOf, Ck.kind]⟩
      | huge n =>
        simp only [rightAux, Bool.and_eq_true, decide_eq_true_eq] at hr
        obtain ⟨rfl, hr⟩ := hr
        obtain rfl : left = 0 := by omega
        have h1 : 1 ≤ n := hx.1
        refine ⟨n - 1, hr, ?_, fun e => ?_, fun e => ?_⟩
        · unfold leftOf; split
          · exact Nat.le_refl _
          · omega
        · simp [One.tkn] at e
          refine ⟨rfl, by simp [leftOf, Ck.kind, e], h1⟩
        · simp [One.tkn] at e
          simp [leftOf, e]
      | _ =>
        simp only [rightAux, Bool.and_eq_true, decide_eq_true_eq] at hr
        obtain ⟨rfl, hr⟩ := hr
        obtain rfl : left = 0 := by omega
        exact ⟨0, hr, by simp [leftOf, Ck.kind], fun e => by simp [One.tkn] at e, fun _ => by simp [leftOf, Ck.kind]⟩
    obtain ⟨t', hr', hl', k1, k0⟩ := key
    unfold tableAux
    cases i with
    | zero =>
      simp only [List.getElem?_cons_zero] at h ⊢
      injection h with h
      subst h
      congr 1
      rw [cov_zero]
      cases hk : x.tkn with
      | true =>
        obtain ⟨e1, e2, e3⟩ := k1 hk
        have : 0 < x.c.many := e3
        rw [if_pos (by omega)]
        simp [this]
      | false =>
        rw [k0 hk]
        by_cases h0 : 0 < left <;> simp [h0]
    | succ i =>
      simp only [List.getElem?_cons_succ] at h ⊢
      rw [table_get hr' hl' (fun o' ho' => ht o' (by simp [ho'])) h]
      congr 2
      rw [cov_succ]
      cases hk : x.tkn with
      | true =>
        obtain ⟨e1, e2, e3⟩ := k1 hk
        subst e1
        by_cases h0 : i + 1 < x.c.many
        · have : i < leftOf 0 x - 1 := by omega
          simp [h0, this]
        · have : ¬ i < leftOf 0 x - 1 := by omega
          simp [h0, this]
      | false =>
        rw [k0 hk]
        by_cases h0 : i + 1 < left
        · have : i < left - 1 := by omega
          simp [h0, this]
        · have : ¬ i < left - 1 := by omega
          simp [h0, this]
theorem tableM_get {l : List One} {i : Nat} {o : One} (hr : rightAux 0 (l.map One.c) = true) (ht : ∀ o ∈ l, Tidy o) (h : l[i]? = some o) : (tableM l)[i]? = some (if covTo l i (i + 1) then .free else o.c) := by
  have := table_get hr (Nat.le_refl 0) ht h
  rw [covTo_cov (lt_of_get h)]
  unfold tableM
  rw [this]
  simp

theorem f59_spec {h : Heap} {Q : Value → Heap → Prop} {n : Nat} (hn : n < 8) (q : Q (ub (16777216#64 * bitB n)) h) : WC T (.func (.func 59) #[] #[]) [.int .i64 n] h Q := by
  refine WC_fn T59 rfl ?_
  simp (disch := first | assumption | omega | (simp only [push_n, set_n]; done) | (simp only [push_n, set_n]; omega) | fail) only [go_sem, ↓reduceIte, Nat.reduceEqDiff, Nat.reduceAdd, Nat.reduceMul, Int.reduceToNat, Int.reduceAdd, Int.reduceTDiv, Nat.reduceLeDiff, ir59]
  refine f75_spec (n := n) (by omega) ?_
  simp (disch := first | assumption | omega | (simp only [push_n, set_n]; done) | (simp only [push_n, set_n]; omega) | fail) only [go_sem, ↓reduceIte, Nat.reduceEqDiff, Nat.reduceAdd, Nat.reduceMul, Int.reduceToNat, Int.reduceAdd, Int.reduceTDiv, Nat.reduceLeDiff]
  exact q
/-- A run's bits, as many as were looked at. -/
def lowB (b : BitVec 64) (j : Nat) : BitVec 64 := BitVec.ofNat 64 (b.toNat % 2 ^ j)
theorem lowB_0 {b : BitVec 64} : lowB b 0 = 0#64 := by unfold lowB; simp [Nat.mod_one]
theorem lowB_8 {b : BitVec 64} (h : b.toNat < 256) : lowB b 8 = b := by
  unfold lowB
  rw [Nat.mod_eq_of_lt (by omega)]
  exact BitVec.ofNat_toNat 64 b |>.trans (by simp)
theorem bit_quo {n : Nat} (hn : n < 8) : 16777216#64 * bitB n / 16777216#64 = bitB n := by
  have : n = 0 ∨ n = 1 ∨ n = 2 ∨ n = 3 ∨ n = 4 ∨ n = 5 ∨ n = 6 ∨ n = 7 := by omega
  rcases this with rfl | rfl | rfl | rfl | rfl | rfl | rfl | rfl <;> decide
theorem bitB_ofNat {n : Nat} : bitB n = BitVec.ofNat 64 (2 ^ n) := by
  unfold bitB
  apply BitVec.eq_of_toNat_eq
  rw [BitVec.toNat_shiftLeft, BitVec.toNat_ofNat, BitVec.toNat_ofNat, Nat.shiftLeft_eq]
  simp
theorem lowB_true {b : BitVec 64} {j : Nat} (h : b.getLsbD j = true) : lowB b j + bitB j = lowB b (j + 1) := by
  have e : b.toNat / 2 ^ j % 2 = 1 := by
    have : b.toNat.testBit j = true := h
    rw [Nat.testBit_eq_decide_div_mod_eq] at this
    simpa using this
  unfold lowB
  rw [bitB_ofNat, ← BitVec.ofNat_add, Nat.mod_pow_succ, e, Nat.mul_one]
theorem lowB_false {b : BitVec 64} {j : Nat} (h : b.getLsbD j = false) : lowB b (j + 1) = lowB b j := by
  have e : b.toNat / 2 ^ j % 2 = 0 := by
    have : b.toNat.testBit j = false := h
    rw [Nat.testBit_eq_decide_div_mod_eq] at this
    have h2 : ¬ b.toNat / 2 ^ j % 2 = 1 := by simpa using this
    omega
  unfold lowB
  rw [Nat.mod_pow_succ, e, Nat.mul_zero, Nat.add_zero]
theorem blk_one {o : One} {j : Nat} : decide (o.blk j = 1) = o.c.bits.getLsbD j := by
  obtain ⟨c, t⟩ := o
  cases c with
  | run k b =>
    have e : One.blk ⟨.run k b, t⟩ j = if b.getLsbD j = true then 1 else if t.getLsbD j = true then 2 else 0 := rfl
    rw [e]
    simp only [Ck.bits]
    cases hb : b.getLsbD j with
    | true => simp
    | false => cases ht : t.getLsbD j <;> simp
  | _ => simp [One.blk, Ck.bits]
theorem ref_blk {o : One} {j : Nat} (hj : j < 8) : getAt o.ref (5 + j) 1 = some [.int .i64 (o.blk j)] := by
  have : j = 0 ∨ j = 1 ∨ j = 2 ∨ j = 3 ∨ j = 4 ∨ j = 5 ∨ j = 6 ∨ j = 7 := by omega
  rcases this with rfl | rfl | rfl | rfl | rfl | rfl | rfl | rfl <;> rfl
end Go.Am.YtdcppkhobfbpeaaDoor
