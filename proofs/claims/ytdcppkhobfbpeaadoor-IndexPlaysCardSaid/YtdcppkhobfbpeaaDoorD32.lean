/-
  The document's index, made from a table.
-/
import Derived.Test.YtdcppkhobfbpeaaDoorD31
set_option linter.unusedVariables false
set_option linter.unusedSimpArgs false
namespace Go.Am.YtdcppkhobfbpeaaDoor
open Go Go.Am Go.Proofs

def mk01 (b : BitVec 64) (k j : Nat) : Value := .int .i64 ((if j < k ∧ b.getLsbD j = true then 1 else 0 : Nat) : Int)
def newC (c : Ck) (k : Nat) (b : BitVec 64) : List Value := [.int .i64 c.kind, .int .i64 c.cls, .int .i64 c.lane, .int .i64 c.many, ub b, mk01 c.bits k 0, mk01 c.bits k 1, mk01 c.bits k 2, mk01 c.bits k 3, mk01 c.bits k 4, mk01 c.bits k 5, mk01 c.bits k 6, mk01 c.bits k 7, .bool false]
theorem mk01_ne {b : BitVec 64} {k j : Nat} (h : j ≠ k) : mk01 b (k + 1) j = mk01 b k j := by
  unfold mk01
  congr 2
  by_cases hb : b.getLsbD j = true
  · by_cases hj : j < k
    · rw [if_pos ⟨by omega, hb⟩, if_pos ⟨hj, hb⟩]
    · rw [if_neg (by omega), if_neg (by omega)]
  · rw [if_neg (fun e => hb e.2), if_neg (fun e => hb e.2)]
theorem mk01_eq {b : BitVec 64} {k : Nat} (h : b.getLsbD k = true) : mk01 b (k + 1) k = .int .i64 1 := by
  unfold mk01; rw [if_pos ⟨by omega, h⟩]; rfl
theorem mk01_no {b : BitVec 64} {k j : Nat} (h : b.getLsbD k = false) : mk01 b (k + 1) j = mk01 b k j := by
  by_cases e : j = k
  · subst e; unfold mk01; rw [if_neg (by rw [h]; simp), if_neg (by omega)]
  · exact mk01_ne e
theorem newC_set {c : Ck} {k : Nat} {b : BitVec 64} (hk : k < 8) (h : c.bits.getLsbD k = true) : setAt (newC c k b) (5 + k) [.int .i64 1] = newC c (k + 1) b := by
  have e : ∀ j, j ≠ k → mk01 c.bits (k + 1) j = mk01 c.bits k j := fun j hj => mk01_ne hj
  have e2 := mk01_eq h
  have : k = 0 ∨ k = 1 ∨ k = 2 ∨ k = 3 ∨ k = 4 ∨ k = 5 ∨ k = 6 ∨ k = 7 := by omega
  unfold newC
  rcases this with rfl | rfl | rfl | rfl | rfl | rfl | rfl | rfl <;>
    simp (disch := decide) only [e, e2, setAt, List.set_cons_succ, List.set_cons_zero, Nat.reduceAdd]
theorem newC_no {c : Ck} {k : Nat} {b : BitVec 64} (h : c.bits.getLsbD k = false) : newC c (k + 1) b = newC c k b := by
  unfold newC
  simp only [mk01_no h]
theorem newC_len {c : Ck} {k : Nat} {b : BitVec 64} : (newC c k b).length = 14 := rfl
theorem newC_end {c : Ck} {k : Nat} (hk : ∀ j, j < 8 → c.bits.getLsbD j = true → j < k) (hb : c.kind ≠ 1 → c.bits = 0#64) : newC c k 0#64 = One.ref ⟨c, 0#64⟩ := by
  have e : ∀ j, j < 8 → mk01 c.bits k j = .int .i64 (One.blk ⟨c, 0#64⟩ j) := fun j hj => by
    unfold mk01 One.blk
    congr 2
    cases c with
    | run k' b =>
      have hkk : ∀ j, j < 8 → b.getLsbD j = true → j < k := hk
      show (if j < k ∧ b.getLsbD j = true then 1 else 0) = if b.getLsbD j = true then 1 else if (0#64).getLsbD j = true then 2 else 0
      by_cases h : b.getLsbD j = true
      · have := hkk j hj h
        simp [h, this]
      · simp [h]
    | _ => simp [Ck.bits]
  unfold newC One.ref
  rw [e 0 (by omega), e 1 (by omega), e 2 (by omega), e 3 (by omega), e 4 (by omega), e 5 (by omega), e 6 (by omega), e 7 (by omega)]
  have : One.tkn ⟨c, 0#64⟩ = false := by unfold One.tkn; cases c <;> simp
  rw [this]

theorem ref_one {o : One} : o.ref.length = 14 := rfl
theorem ref_all {o : One} : getAt o.ref 0 14 = some o.ref := rfl
theorem ref_put {o : One} {a b c d e f g i j k l m n p : Value} : setAt [a, b, c, d, e, f, g, i, j, k, l, m, n, p] 0 o.ref = o.ref := rfl

set_option maxHeartbeats 1000000 in
theorem f21_spec {h : Heap} {Q : Value → Heap → Prop} {tv : Value} {cs : List Ck} (hb : blocks h) (hr : RS h 1 tv (cs.map Ck.word)) (hok : ∀ c ∈ cs, c.ok) (hn : cs.length ≤ 1000)
    (q : ∀ yb lb h', Ext h h' → h.n ≤ yb → (lb = 1 ∧ cs = [] ∨ h.n ≤ lb) → YX h' yb lb (cs.map fun c => ⟨c, 0#64⟩) → Q (.pointer (some ⟨yb, 0, none⟩)) h') : WC T (.func (.func 21) #[] #[]) [tv] h Q := by
  refine WC_fn T21 rfl ?_
  simp (disch := first | assumption | omega | (simp only [push_n, set_n]; done) | (simp only [push_n, set_n]; omega) | fail) only [go_sem, ↓reduceIte, Nat.reduceEqDiff, Nat.reduceAdd, Nat.reduceMul, Int.reduceToNat, Int.reduceAdd, Int.reduceTDiv, Nat.reduceLeDiff, ir21]
  refine f53_spec (hr.mono (by repeat (first | assumption | exact Ext.refl _ | refine Ext.push ?_ | refine Ext.set ?_ (by omega) | refine Ext.trans ?_ (by assumption)))) hok hn fun v h1 x1 o1 => ?_
  have n_x1 := Ext.n_le x1; try simp only [push_n, set_n] at n_x1
  have hv := o1.ixv
  rw [List.length_map] at hv
  have hvs : cs ≠ [] → h.n + 1 ≤ vb v ∧ vb v < h1.n ∧ h1.get (vb v) = .cells (cs.map Ck.cells).flatten 47 false := fun hne => by
    have hne' : cs.map Ck.cells ≠ [] := by simpa using hne
    have h2 := o1.vb_le hne'
    simp only [push_n] at h2
    exact ⟨h2.1, h2.2, o1.cells hne'⟩
  have g0 : h1.get h.n = .cells [.slice none 0 0] 87 false := by simp (disch := first | assumption | omega | (simp only [push_n, set_n]; done) | (simp only [push_n, set_n]; omega) | fail) only [go_sem, ↓reduceIte, Nat.reduceEqDiff, Nat.reduceAdd, Nat.reduceMul, Int.reduceToNat, Int.reduceAdd, Int.reduceTDiv, Nat.reduceLeDiff, x1.2]
  have gx : ∀ i, i < h.n → h1.get i = h.get i := fun i hi => by simp (disch := first | assumption | omega | (simp only [push_n, set_n]; done) | (simp only [push_n, set_n]; omega) | fail) only [go_sem, ↓reduceIte, Nat.reduceEqDiff, Nat.reduceAdd, Nat.reduceMul, Int.reduceToNat, Int.reduceAdd, Int.reduceTDiv, Nat.reduceLeDiff, x1.2]
  generalize hD : vb v = D at *
  subst hv
  simp (disch := first | assumption | omega | (simp only [push_n, set_n]; done) | (simp only [push_n, set_n]; omega) | fail) only [go_sem, ↓reduceIte, Nat.reduceEqDiff, Nat.reduceAdd, Nat.reduceMul, Int.reduceToNat, Int.reduceAdd, Int.reduceTDiv, Nat.reduceLeDiff]
  refine WE_loop (fun m a h' => ∃ (k : Nat) (w : Value), m = cs.length - k ∧ k ≤ cs.length ∧ a.get 3 = .pointer (some ⟨h.n, 0, none⟩) ∧ a.get 4 = ixv D cs.length ∧ a.get 6 = .int .i64 k ∧ a.marks = [] ∧ h1.n ≤ h'.n ∧ (∀ i, i < h1.n → i ≠ h.n → h'.get i = h1.get i) ∧ h'.get h.n = .cells [w] 87 false ∧ OS h' 90 14 h1.n w ((cs.take k).map fun c => One.ref ⟨c, 0#64⟩)) ?_ (m := cs.length) ⟨0, .slice none 0 0, by omega, by omega, by simp (disch := first | assumption | omega | (simp only [push_n, set_n]; done) | (simp only [push_n, set_n]; omega) | fail) only [go_sem, ↓reduceIte, Nat.reduceEqDiff, Nat.reduceAdd, Nat.reduceMul, Int.reduceToNat, Int.reduceAdd, Int.reduceTDiv, Nat.reduceLeDiff], by simp (disch := first | assumption | omega | (simp only [push_n, set_n]; done) | (simp only [push_n, set_n]; omega) | fail) only [go_sem, ↓reduceIte, Nat.reduceEqDiff, Nat.reduceAdd, Nat.reduceMul, Int.reduceToNat, Int.reduceAdd, Int.reduceTDiv, Nat.reduceLeDiff], by simp (disch := first | assumption | omega | (simp only [push_n, set_n]; done) | (simp only [push_n, set_n]; omega) | fail) only [go_sem, ↓reduceIte, Nat.reduceEqDiff, Nat.reduceAdd, Nat.reduceMul, Int.reduceToNat, Int.reduceAdd, Int.reduceTDiv, Nat.reduceLeDiff], rfl, Nat.le_refl _, fun _ _ _ => rfl, g0, OS.nil⟩
  rintro m a h2 ⟨k, w, rfl, hk, a3, a4, a6, am, n2, g2, gw, ho⟩
  by_cases hkn : k < cs.length
  · obtain ⟨c, hc⟩ : ∃ c, cs[k]? = some c := ⟨_, List.getElem?_eq_getElem hkn⟩
    have hne : cs ≠ [] := by intro e; subst e; simp at hkn
    have hcok := hok c (List.mem_of_getElem? hc)
    have hcb := Ck.bounds hcok
    obtain ⟨d1, d2, d3⟩ := hvs hne
    have hl := getAt_map (f := Ck.cells) (s := 5) (fun _ => rfl) hc
    have hl0 := getAt_part (cs.map Ck.cells) 5 (fun y hy => by obtain ⟨z, _, rfl⟩ := List.mem_map.1 hy; rfl) k 0 1 c.cells (by rw [List.getElem?_map, hc]; rfl) (by decide)
    have hl1 := getAt_part (cs.map Ck.cells) 5 (fun y hy => by obtain ⟨z, _, rfl⟩ := List.mem_map.1 hy; rfl) k 1 1 c.cells (by rw [List.getElem?_map, hc]; rfl) (by decide)
    rw [Nat.add_zero] at hl0
    have gD := (g2 D d2 (by omega)).trans d3
    have e0 : newC c 0 c.bits = [.int .i64 c.kind, .int .i64 c.cls, .int .i64 c.lane, .int .i64 c.many, ub c.bits, .int .i64 0, .int .i64 0, .int .i64 0, .int .i64 0, .int .i64 0, .int .i64 0, .int .i64 0, .int .i64 0, .bool false] := by
      unfold newC mk01; simp
    -- the marks of a run's live blocks; how many are looked at
    obtain ⟨K, hK1, hK2, hK3⟩ : ∃ K, K ≤ 8 ∧ (∀ j, j < 8 → c.bits.getLsbD j = true → j < K) ∧ (if c.kind = 1 then K = manyOf c.cls else K = 0) := by
      by_cases h1 : c.kind = 1
      · obtain ⟨k', b, e⟩ := Ck.kind_run h1
        subst e
        refine ⟨manyOf k', (many_pos k' hcok.1).2, fun j hj hb => ?_, by rw [if_pos h1]; rfl⟩
        rcases Nat.lt_or_ge j (manyOf k') with h3 | h3
        · exact h3
        · have : b.getLsbD j = false := Nat.testBit_lt_two_pow (Nat.lt_of_lt_of_le hcok.2 (Nat.pow_le_pow_right (by decide) h3))
          simp only [Ck.bits] at hb
          rw [this] at hb; cases hb
      · refine ⟨0, by omega, fun j hj hb => ?_, by rw [if_neg h1]⟩
        have : c.bits = 0#64 := by cases c <;> first | rfl | exact (h1 rfl).elim
        rw [this] at hb; simp at hb
    have hbz : c.kind ≠ 1 → c.bits = 0#64 := fun h1 => by cases c <;> first | rfl | exact (h1 rfl).elim
    have hcls : c.kind = 1 → c.cls < 3 := fun h1 => by
      obtain ⟨k', b, e⟩ := Ck.kind_run h1
      subst e; exact hcok.1
    simp (disch := first | assumption | omega | (simp only [push_n, set_n]; done) | (simp only [push_n, set_n]; omega) | fail) only [go_sem, ↓reduceIte, Nat.reduceEqDiff, Nat.reduceAdd, Nat.reduceMul, Int.reduceToNat, Int.reduceAdd, Int.reduceTDiv, Nat.reduceLeDiff, a3, a4, a6, am, gD, hl, gw, Ck.cells]
    refine WE_loop (fun m a' h' => ∃ j : Nat, m = K - j ∧ j ≤ K ∧ a'.get 3 = .pointer (some ⟨h.n, 0, none⟩) ∧ a'.get 4 = ixv D cs.length ∧ a'.get 6 = .int .i64 k ∧ a'.get 7 = .pointer (some ⟨h2.n, 0, none⟩) ∧ a'.get 8 = .int .i64 j ∧ a'.marks = [] ∧ h2.n < h'.n ∧ (∀ i, i < h2.n → h'.get i = h2.get i) ∧ h'.get h2.n = .cells (newC c j c.bits) 90 false) ?_ (m := K)
      ⟨0, by omega, by omega, by simp (disch := first | assumption | omega | (simp only [push_n, set_n]; done) | (simp only [push_n, set_n]; omega) | fail) only [go_sem, ↓reduceIte, Nat.reduceEqDiff, Nat.reduceAdd, Nat.reduceMul, Int.reduceToNat, Int.reduceAdd, Int.reduceTDiv, Nat.reduceLeDiff, a3], by simp (disch := first | assumption | omega | (simp only [push_n, set_n]; done) | (simp only [push_n, set_n]; omega) | fail) only [go_sem, ↓reduceIte, Nat.reduceEqDiff, Nat.reduceAdd, Nat.reduceMul, Int.reduceToNat, Int.reduceAdd, Int.reduceTDiv, Nat.reduceLeDiff, a4], by simp (disch := first | assumption | omega | (simp only [push_n, set_n]; done) | (simp only [push_n, set_n]; omega) | fail) only [go_sem, ↓reduceIte, Nat.reduceEqDiff, Nat.reduceAdd, Nat.reduceMul, Int.reduceToNat, Int.reduceAdd, Int.reduceTDiv, Nat.reduceLeDiff, a6], by simp (disch := first | assumption | omega | (simp only [push_n, set_n]; done) | (simp only [push_n, set_n]; omega) | fail) only [go_sem, ↓reduceIte, Nat.reduceEqDiff, Nat.reduceAdd, Nat.reduceMul, Int.reduceToNat, Int.reduceAdd, Int.reduceTDiv, Nat.reduceLeDiff], by simp (disch := first | assumption | omega | (simp only [push_n, set_n]; done) | (simp only [push_n, set_n]; omega) | fail) only [go_sem, ↓reduceIte, Nat.reduceEqDiff, Nat.reduceAdd, Nat.reduceMul, Int.reduceToNat, Int.reduceAdd, Int.reduceTDiv, Nat.reduceLeDiff], rfl, by (first | omega | (simp only [push_n, set_n]; done) | (simp only [push_n, set_n]; omega)), fun i hi => get_push_lt hi, by rw [e0]; exact get_push_eq rfl⟩
    rintro m a2 h3 ⟨j, rfl, hjK, c3, c4, c6, c7, c8, cm, n3, g3, gc3⟩
    have gD3 := (g3 D (by omega)).trans gD
    by_cases hj : j < K
    · have h1 : c.kind = 1 := by
        by_cases h1 : c.kind = 1
        · exact h1
        · rw [if_neg h1] at hK3; omega
      rw [if_pos h1] at hK3
      simp (disch := first | assumption | omega | (simp only [push_n, set_n]; done) | (simp only [push_n, set_n]; omega) | fail) only [go_sem, ↓reduceIte, Nat.reduceEqDiff, Nat.reduceAdd, Nat.reduceMul, Int.reduceToNat, Int.reduceAdd, Int.reduceTDiv, Nat.reduceLeDiff, c3, c4, c6, c7, c8, cm, gD3, hl0, hl1]
      refine f20_spec (k := c.cls) (hcls h1) ?_
      rw [← hK3]
      simp (disch := first | assumption | omega | (simp only [push_n, set_n]; done) | (simp only [push_n, set_n]; omega) | fail) only [go_sem, ↓reduceIte, Nat.reduceEqDiff, Nat.reduceAdd, Nat.reduceMul, Int.reduceToNat, Int.reduceAdd, Int.reduceTDiv, Nat.reduceLeDiff, c3, c4, c6, c7, c8, cm, gD3, hl]
      refine f54_spec (c := c) (j := j) (by omega) fun h4 x4 => ?_
      have n_x4 := Ext.n_le x4; try simp only [push_n, set_n] at n_x4
      have gc4 := (x4.2 h2.n n3).trans gc3
      have g4 : ∀ i, i < h2.n → h4.get i = h2.get i := fun i hi => (x4.2 i (by omega)).trans (g3 i hi)
      cases hbit : c.bits.getLsbD j with
      | true =>
        have hst := newC_set (c := c) (b := c.bits) (show j < 8 by omega) hbit
        simp (disch := first | assumption | omega | (simp only [push_n, set_n]; done) | (simp only [push_n, set_n]; omega) | fail) only [go_sem, ↓reduceIte, Nat.reduceEqDiff, Nat.reduceAdd, Nat.reduceMul, Int.reduceToNat, Int.reduceAdd, Int.reduceTDiv, Nat.reduceLeDiff, c3, c4, c6, c7, c8, cm, gc4, newC_len, hst]
        exact ⟨_, Nat.sub_lt_sub_left hj (Nat.lt_succ_self j), j + 1, rfl, by omega, rfl, by omega, fun i hi => by simp (disch := first | assumption | omega | (simp only [push_n, set_n]; done) | (simp only [push_n, set_n]; omega) | fail) only [go_sem, ↓reduceIte, Nat.reduceEqDiff, Nat.reduceAdd, Nat.reduceMul, Int.reduceToNat, Int.reduceAdd, Int.reduceTDiv, Nat.reduceLeDiff, g4], rfl⟩
      | false =>
        simp (disch := first | assumption | omega | (simp only [push_n, set_n]; done) | (simp only [push_n, set_n]; omega) | fail) only [go_sem, ↓reduceIte, Nat.reduceEqDiff, Nat.reduceAdd, Nat.reduceMul, Int.reduceToNat, Int.reduceAdd, Int.reduceTDiv, Nat.reduceLeDiff, c3, c4, c6, c7, c8, cm]
        exact ⟨_, Nat.sub_lt_sub_left hj (Nat.lt_succ_self j), j + 1, rfl, by omega, rfl, by omega, g4, by rw [newC_no hbit]; exact gc4⟩
    · obtain rfl : j = K := by omega
      have hend := newC_end hK2 hbz
      have hst : setAt (newC c j c.bits) 4 [ub 0#64] = One.ref ⟨c, 0#64⟩ := by rw [← hend]; rfl
      have gw3 := (g3 h.n (by omega)).trans gw
      by_cases hkd : c.kind = 1
      · rw [if_pos hkd] at hK3
        simp (disch := first | assumption | omega | (simp only [push_n, set_n]; done) | (simp only [push_n, set_n]; omega) | fail) only [go_sem, ↓reduceIte, Nat.reduceEqDiff, Nat.reduceAdd, Nat.reduceMul, Int.reduceToNat, Int.reduceAdd, Int.reduceTDiv, Nat.reduceLeDiff, c3, c4, c6, c7, c8, cm, gD3, hl0, hl1]
        refine f20_spec (k := c.cls) (hcls hkd) ?_
        rw [← hK3]
        obtain ⟨w', h5, e1, o5, n5, g5, b5⟩ := (ho.mono (h' := (h3.set h2.n (.cells (One.ref ⟨c, 0#64⟩) 90 false)).push (.cells (One.ref ⟨c, 0#64⟩) 90 false)) (by (first | omega | (simp only [push_n, set_n]; done) | (simp only [push_n, set_n]; omega))) (fun i hi hi2 => by simp (disch := first | assumption | omega | (simp only [push_n, set_n]; done) | (simp only [push_n, set_n]; omega) | fail) only [go_sem, ↓reduceIte, Nat.reduceEqDiff, Nat.reduceAdd, Nat.reduceMul, Int.reduceToNat, Int.reduceAdd, Int.reduceTDiv, Nat.reduceLeDiff, g3])).app (bytes := 112) (B := h3.n) (get_push_eq (by (first | omega | (simp only [push_n, set_n]; done) | (simp only [push_n, set_n]; omega)))) rfl (by (first | omega | (simp only [push_n, set_n]; done) | (simp only [push_n, set_n]; omega))) (by decide) (by simp; omega)
        simp only [push_n, set_n] at n5 g5
        have vc5 := o5.vc
        have G : ∀ i, i < h1.n → h5.get i = h2.get i := fun i hi => by
          rw [g5 i (by omega) (fun hne => by have := (ho.vb_le hne).1; omega)]
          simp (disch := first | assumption | omega | (simp only [push_n, set_n]; done) | (simp only [push_n, set_n]; omega) | fail) only [go_sem, ↓reduceIte, Nat.reduceEqDiff, Nat.reduceAdd, Nat.reduceMul, Int.reduceToNat, Int.reduceAdd, Int.reduceTDiv, Nat.reduceLeDiff, g3]
        have gw5 := (G h.n (by omega)).trans gw
        simp (disch := first | assumption | omega | (simp only [push_n, set_n]; done) | (simp only [push_n, set_n]; omega) | fail) only [go_sem, ↓reduceIte, Nat.reduceEqDiff, Nat.reduceAdd, Nat.reduceMul, Int.reduceToNat, Int.reduceAdd, Int.reduceTDiv, Nat.reduceLeDiff, c3, c4, c6, c7, c8, cm, gc3, newC_len, hst, gw3, ref_one, ref_all, ref_put, e1, gw5, vc5]
        refine ⟨_, Nat.sub_lt_sub_left hkn (Nat.lt_succ_self k), k + 1, w', rfl, by omega, rfl, by omega, fun i hi hi2 => ?_, rfl, ?_⟩
        · simp (disch := first | assumption | omega | (simp only [push_n, set_n]; done) | (simp only [push_n, set_n]; omega) | fail) only [go_sem, ↓reduceIte, Nat.reduceEqDiff, Nat.reduceAdd, Nat.reduceMul, Int.reduceToNat, Int.reduceAdd, Int.reduceTDiv, Nat.reduceLeDiff, G i hi, g2 i hi hi2]
        · rw [take_succ hc, List.map_append]
          exact o5.mono (by (first | omega | (simp only [push_n, set_n]; done) | (simp only [push_n, set_n]; omega))) (fun i hi hi2 => by simp (disch := first | assumption | omega | (simp only [push_n, set_n]; done) | (simp only [push_n, set_n]; omega) | fail) only [go_sem, ↓reduceIte, Nat.reduceEqDiff, Nat.reduceAdd, Nat.reduceMul, Int.reduceToNat, Int.reduceAdd, Int.reduceTDiv, Nat.reduceLeDiff])
      · simp (disch := first | assumption | omega | (simp only [push_n, set_n]; done) | (simp only [push_n, set_n]; omega) | fail) only [go_sem, ↓reduceIte, Nat.reduceEqDiff, Nat.reduceAdd, Nat.reduceMul, Int.reduceToNat, Int.reduceAdd, Int.reduceTDiv, Nat.reduceLeDiff, c3, c4, c6, c7, c8, cm, gD3, hl0, hl1]
        obtain ⟨w', h5, e1, o5, n5, g5, b5⟩ := (ho.mono (h' := (h3.set h2.n (.cells (One.ref ⟨c, 0#64⟩) 90 false)).push (.cells (One.ref ⟨c, 0#64⟩) 90 false)) (by (first | omega | (simp only [push_n, set_n]; done) | (simp only [push_n, set_n]; omega))) (fun i hi hi2 => by simp (disch := first | assumption | omega | (simp only [push_n, set_n]; done) | (simp only [push_n, set_n]; omega) | fail) only [go_sem, ↓reduceIte, Nat.reduceEqDiff, Nat.reduceAdd, Nat.reduceMul, Int.reduceToNat, Int.reduceAdd, Int.reduceTDiv, Nat.reduceLeDiff, g3])).app (bytes := 112) (B := h3.n) (get_push_eq (by (first | omega | (simp only [push_n, set_n]; done) | (simp only [push_n, set_n]; omega)))) rfl (by (first | omega | (simp only [push_n, set_n]; done) | (simp only [push_n, set_n]; omega))) (by decide) (by simp; omega)
        simp only [push_n, set_n] at n5 g5
        have vc5 := o5.vc
        have G : ∀ i, i < h1.n → h5.get i = h2.get i := fun i hi => by
          rw [g5 i (by omega) (fun hne => by have := (ho.vb_le hne).1; omega)]
          simp (disch := first | assumption | omega | (simp only [push_n, set_n]; done) | (simp only [push_n, set_n]; omega) | fail) only [go_sem, ↓reduceIte, Nat.reduceEqDiff, Nat.reduceAdd, Nat.reduceMul, Int.reduceToNat, Int.reduceAdd, Int.reduceTDiv, Nat.reduceLeDiff, g3]
        have gw5 := (G h.n (by omega)).trans gw
        simp (disch := first | assumption | omega | (simp only [push_n, set_n]; done) | (simp only [push_n, set_n]; omega) | fail) only [go_sem, ↓reduceIte, Nat.reduceEqDiff, Nat.reduceAdd, Nat.reduceMul, Int.reduceToNat, Int.reduceAdd, Int.reduceTDiv, Nat.reduceLeDiff, c3, c4, c6, c7, c8, cm, gc3, newC_len, hst, gw3, ref_one, ref_all, ref_put, e1, gw5, vc5]
        refine ⟨_, Nat.sub_lt_sub_left hkn (Nat.lt_succ_self k), k + 1, w', rfl, by omega, rfl, by omega, fun i hi hi2 => ?_, rfl, ?_⟩
        · simp (disch := first | assumption | omega | (simp only [push_n, set_n]; done) | (simp only [push_n, set_n]; omega) | fail) only [go_sem, ↓reduceIte, Nat.reduceEqDiff, Nat.reduceAdd, Nat.reduceMul, Int.reduceToNat, Int.reduceAdd, Int.reduceTDiv, Nat.reduceLeDiff, G i hi, g2 i hi hi2]
        · rw [take_succ hc, List.map_append]
          exact o5.mono (by (first | omega | (simp only [push_n, set_n]; done) | (simp only [push_n, set_n]; omega))) (fun i hi hi2 => by simp (disch := first | assumption | omega | (simp only [push_n, set_n]; done) | (simp only [push_n, set_n]; omega) | fail) only [go_sem, ↓reduceIte, Nat.reduceEqDiff, Nat.reduceAdd, Nat.reduceMul, Int.reduceToNat, Int.reduceAdd, Int.reduceTDiv, Nat.reduceLeDiff])
  · obtain rfl : k = cs.length := by omega
    simp (disch := first | assumption | omega | (simp only [push_n, set_n]; done) | (simp only [push_n, set_n]; omega) | fail) only [go_sem, ↓reduceIte, Nat.reduceEqDiff, Nat.reduceAdd, Nat.reduceMul, Int.reduceToNat, Int.reduceAdd, Int.reduceTDiv, Nat.reduceLeDiff, a3, a4, a6, am]
    rw [List.take_length] at ho
    have hw := ho.ixv
    rw [List.length_map] at hw
    have h0 := hb.1
    refine q h.n (if cs = [] then 1 else vb w) h2 ⟨by omega, fun i hi => (g2 i (by omega) (by omega)).trans (gx i hi)⟩ (Nat.le_refl _) ?_ ⟨by omega, ?_, ?_, ?_, fun hne => ?_⟩
    · split
      · rename_i he; exact .inl ⟨rfl, he⟩
      · rename_i hne
        have := (ho.vb_le (by simpa using hne)).1
        right; omega
    · split
      · omega
      · rename_i hne; exact (ho.vb_le (by simpa using hne)).2
    · split
      · omega
      · rename_i hne; have := (ho.vb_le (by simpa using hne)).1; omega
    · rw [gw, List.length_map]
      refine (congrArg (fun x => Blk.cells [x] 87 false) hw).trans ?_
      split
      · rename_i e; subst e; rfl
      · rfl
    · have hne' : cs ≠ [] := by simpa using hne
      rw [if_neg hne', ho.cells (by simpa using hne'), List.map_map]
      rfl
end Go.Am.YtdcppkhobfbpeaaDoor
