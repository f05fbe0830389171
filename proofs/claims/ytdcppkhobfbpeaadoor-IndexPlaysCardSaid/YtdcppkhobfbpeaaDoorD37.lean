/-
  The document's index: taking.
-/
import Derived.Test.YtdcppkhobfbpeaaDoorD36
set_option linter.unusedVariables false
set_option linter.unusedSimpArgs false
namespace Go.Am.YtdcppkhobfbpeaaDoor
open Go Go.Am Go.Proofs

/-- A block is another thing. -/
theorem ref_blk_set {o o' : One} {n v : Nat} (hn : n < 8) (h1 : o'.c.kind = o.c.kind) (h2 : o'.c.cls = o.c.cls) (h3 : o'.c.lane = o.c.lane) (h4 : o'.c.many = o.c.many) (h5 : o'.tkn = o.tkn) (hb : ∀ j, j ≠ n → o'.blk j = o.blk j) (hv : o'.blk n = v) :
    setAt o.ref (5 + n) [.int .i64 v] = o'.ref := by
  have : n = 0 ∨ n = 1 ∨ n = 2 ∨ n = 3 ∨ n = 4 ∨ n = 5 ∨ n = 6 ∨ n = 7 := by omega
  unfold One.ref
  rcases this with rfl | rfl | rfl | rfl | rfl | rfl | rfl | rfl <;>
    simp (disch := decide) only [h1, h2, h3, h4, h5, hb, hv, setAt, List.set_cons_succ, List.set_cons_zero, Nat.reduceAdd]
theorem blk_run {k : Nat} {b t : BitVec 64} {j : Nat} : One.blk ⟨.run k b, t⟩ j = if b.getLsbD j = true then 1 else if t.getLsbD j = true then 2 else 0 := rfl
theorem or_bit_get {t : BitVec 64} {n j : Nat} (hj : j ≠ n) : (t ||| bitB n).getLsbD j = t.getLsbD j := by
  rw [BitVec.getLsbD_or, bitB_get]; simp [hj]
theorem or_bit_eq {t : BitVec 64} {n : Nat} (hn : n < 64) : (t ||| bitB n).getLsbD n = true := by
  rw [BitVec.getLsbD_or, bitB_get]; simp [hn]
theorem and_bit_get {t : BitVec 64} {n j : Nat} (hj : j ≠ n) (h6 : j < 64) : (t &&& ~~~bitB n).getLsbD j = t.getLsbD j := by
  rw [BitVec.getLsbD_and, BitVec.getLsbD_not, bitB_get]; simp [hj, h6]
theorem and_bit_eq {t : BitVec 64} {n : Nat} : (t &&& ~~~bitB n).getLsbD n = false := by
  rw [BitVec.getLsbD_and, BitVec.getLsbD_not, bitB_get]
  by_cases h : n < 64 <;> simp [h]
theorem ref_taken {k : Nat} {b t : BitVec 64} {n : Nat} (hn : n < 8) (hb : b.getLsbD n = false) : setAt (One.ref ⟨.run k b, t⟩) (5 + n) [.int .i64 2] = One.ref ⟨.run k b, t ||| bitB n⟩ :=
  ref_blk_set (v := 2) hn rfl rfl rfl rfl rfl (fun j hj => by rw [blk_run, blk_run, or_bit_get hj]) (by rw [blk_run, hb, or_bit_eq (by omega)]; rfl)
theorem blk_zero {k : Nat} {b t : BitVec 64} {j : Nat} : One.blk ⟨.run k b, t⟩ j = 0 ↔ b.getLsbD j = false ∧ t.getLsbD j = false := by
  rw [blk_run]
  cases b.getLsbD j <;> cases t.getLsbD j <;> simp
theorem room_at {k n : Nat} {b t : BitVec 64} (hn : n < manyOf k) (h64 : manyOf k ≤ 64) (h0 : One.blk ⟨.run k b, t⟩ n = 0) (hno : ∀ j, j < n → One.blk ⟨.run k b, t⟩ j ≠ 0) : roomI ⟨.run k b, t⟩ k = n := by
  have e : roomI ⟨.run k b, t⟩ k = firstBit (~~~(b ||| t)) (manyOf k) := by simp [roomI]
  rw [e]
  unfold firstBit
  have p : ∀ j, j < 64 → (~~~(b ||| t)).getLsbD j = decide (One.blk ⟨.run k b, t⟩ j = 0) := fun j hj => by
    rw [BitVec.getLsbD_not, BitVec.getLsbD_or, decide_eq_true hj, Bool.true_and]
    by_cases h : One.blk ⟨.run k b, t⟩ j = 0
    · rw [decide_eq_true h]
      obtain ⟨h1, h2⟩ := blk_zero.1 h
      rw [h1, h2]; rfl
    · rw [decide_eq_false h]
      cases h1 : b.getLsbD j with
      | true => rfl
      | false =>
        cases h2 : t.getLsbD j with
        | true => rfl
        | false => exact (h (blk_zero.2 ⟨h1, h2⟩)).elim
  rw [find_range hn (by rw [p n (by omega)]; exact decide_eq_true h0) (fun j hj => by rw [p j (by omega)]; exact decide_eq_false (hno j hj))]
theorem room_no {k : Nat} {b t : BitVec 64} (h64 : manyOf k ≤ 64) (hno : ∀ j, j < manyOf k → One.blk ⟨.run k b, t⟩ j ≠ 0) : roomI ⟨.run k b, t⟩ k = -1 := by
  have e : roomI ⟨.run k b, t⟩ k = firstBit (~~~(b ||| t)) (manyOf k) := by simp [roomI]
  rw [e]
  unfold firstBit
  rw [find_range_none fun j hj => by
    rw [BitVec.getLsbD_not, BitVec.getLsbD_or, decide_eq_true (show j < 64 by omega), Bool.true_and]
    cases h1 : b.getLsbD j with
    | true => rfl
    | false =>
      cases h2 : t.getLsbD j with
      | true => rfl
      | false => exact (hno j hj (blk_zero.2 ⟨h1, h2⟩)).elim]
theorem fill_alike {l : List One} {i many : Nat} {o o' : One} (hm : 1 ≤ many) : (fillM l (i + 1) (many - 1) o).set i o' = (fillM l i many o).set i o' := by
  apply List.ext_getElem?
  intro j
  rw [List.getElem?_set, List.getElem?_set, fillM_get, fillM_get, fillM_length, fillM_length]
  by_cases h1 : i = j
  · rw [if_pos h1, if_pos h1]
  · rw [if_neg h1, if_neg h1]
    by_cases h2 : i ≤ j ∧ j < i + many
    · rw [if_pos h2, if_pos (by omega)]
    · rw [if_neg h2, if_neg (by omega)]

theorem ref_fresh {k : Nat} : One.ref ⟨.run k 0#64, bitB 0⟩ = [.int .i64 1, .int .i64 k, .int .i64 0, .int .i64 0, ub 0#64, .int .i64 2, .int .i64 0, .int .i64 0, .int .i64 0, .int .i64 0, .int .i64 0, .int .i64 0, .int .i64 0, .bool false] := by
  unfold One.ref
  simp [blk_run, bitB, One.tkn, Ck.kind, Ck.cls, Ck.lane, Ck.many]
theorem f52_not {h : Heap} {Q : Value → Heap → Prop} {n : Int} (hn : ¬ (0 ≤ n ∧ n ≤ 4096)) (q : Q (.bool false) h) : WC T (.func (.func 52) #[] #[]) [.int .i64 n] h Q := by
  refine WC_fn T52 rfl ?_
  by_cases h0 : 0 ≤ n
  · simp (disch := first | assumption | omega | (simp only [push_n, set_n]; done) | (simp only [push_n, set_n]; omega) | fail) only [go_sem, ↓reduceIte, Nat.reduceEqDiff, Nat.reduceAdd, Nat.reduceMul, Int.reduceToNat, Int.reduceAdd, Int.reduceTDiv, Nat.reduceLeDiff, ir52]
    exact q
  · simp (disch := first | assumption | omega | (simp only [push_n, set_n]; done) | (simp only [push_n, set_n]; omega) | fail) only [go_sem, ↓reduceIte, Nat.reduceEqDiff, Nat.reduceAdd, Nat.reduceMul, Int.reduceToNat, Int.reduceAdd, Int.reduceTDiv, Nat.reduceLeDiff, ir52]
    exact q
theorem f23_not {h : Heap} {Q : Value → Heap → Prop} {yb : Nat} {n : Int} (hn : ¬ (0 ≤ n ∧ n ≤ 4096)) (q : ∀ h', Ext h h' → Q (.tuple #[(Pl.mk 0 0 0 0 false).val, .int .i64 1]) h') : WC T (.func (.func 23) #[] #[]) [.pointer (some ⟨yb, 0, none⟩), .int .i64 n] h Q := by
  refine WC_fn T23 rfl ?_
  simp (disch := first | assumption | omega | (simp only [push_n, set_n]; done) | (simp only [push_n, set_n]; omega) | fail) only [go_sem, ↓reduceIte, Nat.reduceEqDiff, Nat.reduceAdd, Nat.reduceMul, Int.reduceToNat, Int.reduceAdd, Int.reduceTDiv, Nat.reduceLeDiff, ir23]
  refine f52_not hn ?_
  simp (disch := first | assumption | omega | (simp only [push_n, set_n]; done) | (simp only [push_n, set_n]; omega) | fail) only [go_sem, ↓reduceIte, Nat.reduceEqDiff, Nat.reduceAdd, Nat.reduceMul, Int.reduceToNat, Int.reduceAdd, Int.reduceTDiv, Nat.reduceLeDiff]
  exact q _ (by repeat (first | assumption | exact Ext.refl _ | refine Ext.push ?_ | refine Ext.set ?_ (by omega) | refine Ext.trans ?_ (by assumption)))
theorem f12_not {h : Heap} {Q : Value → Heap → Prop} {xb : Nat} {n : Int} (hn : ¬ (0 ≤ n ∧ n ≤ 4096)) (q : ∀ h', Ext h h' → Q (.tuple #[(Pl.mk 0 0 0 0 false).val, .int .i64 1]) h') : WC T (.func (.func 12) #[] #[]) [.pointer (some ⟨xb, 0, none⟩), .int .i64 n] h Q := by
  refine WC_fn T12 rfl ?_
  simp (disch := first | assumption | omega | (simp only [push_n, set_n]; done) | (simp only [push_n, set_n]; omega) | fail) only [go_sem, ↓reduceIte, Nat.reduceEqDiff, Nat.reduceAdd, Nat.reduceMul, Int.reduceToNat, Int.reduceAdd, Int.reduceTDiv, Nat.reduceLeDiff, ir12]
  refine f42_not hn ?_
  simp (disch := first | assumption | omega | (simp only [push_n, set_n]; done) | (simp only [push_n, set_n]; omega) | fail) only [go_sem, ↓reduceIte, Nat.reduceEqDiff, Nat.reduceAdd, Nat.reduceMul, Int.reduceToNat, Int.reduceAdd, Int.reduceTDiv, Nat.reduceLeDiff]
  refine f43_not hn ?_
  simp (disch := first | assumption | omega | (simp only [push_n, set_n]; done) | (simp only [push_n, set_n]; omega) | fail) only [go_sem, ↓reduceIte, Nat.reduceEqDiff, Nat.reduceAdd, Nat.reduceMul, Int.reduceToNat, Int.reduceAdd, Int.reduceTDiv, Nat.reduceLeDiff]
  exact q _ (by repeat (first | assumption | exact Ext.refl _ | refine Ext.push ?_ | refine Ext.set ?_ (by omega) | refine Ext.trans ?_ (by assumption)))

set_option maxHeartbeats 2000000 in
theorem f23_spec {h : Heap} {Q : Value → Heap → Prop} {yb lb n : Nat} {l : List One} (hi : YX h yb lb l) (ht : ∀ o ∈ l, Tidy o) (hn : l.length ≤ 1000) (hn2 : n ≤ 4096)
    (q : ∀ h', Upd h h' lb → YX h' yb lb (takeM l n).2.2 → Q (.tuple #[(takeM l n).1.val, .int .i64 (takeM l n).2.1]) h') : WC T (.func (.func 23) #[] #[]) [.pointer (some ⟨yb, 0, none⟩), .int .i64 n] h Q := by
  refine WC_fn T23 rfl ?_
  have yn := hi.yn
  have ln := hi.ln
  have ly := hi.ne
  have iy := hi.y
  simp (disch := first | assumption | omega | (simp only [push_n, set_n]; done) | (simp only [push_n, set_n]; omega) | fail) only [go_sem, ↓reduceIte, Nat.reduceEqDiff, Nat.reduceAdd, Nat.reduceMul, Int.reduceToNat, Int.reduceAdd, Int.reduceTDiv, Nat.reduceLeDiff, ir23]
  refine f52_spec hn2 ?_
  simp (disch := first | assumption | omega | (simp only [push_n, set_n]; done) | (simp only [push_n, set_n]; omega) | fail) only [go_sem, ↓reduceIte, Nat.reduceEqDiff, Nat.reduceAdd, Nat.reduceMul, Int.reduceToNat, Int.reduceAdd, Int.reduceTDiv, Nat.reduceLeDiff]
  refine f19_spec hn2 ?_
  simp (disch := first | assumption | omega | (simp only [push_n, set_n]; done) | (simp only [push_n, set_n]; omega) | fail) only [go_sem, ↓reduceIte, Nat.reduceEqDiff, Nat.reduceAdd, Nat.reduceMul, Int.reduceToNat, Int.reduceAdd, Int.reduceTDiv, Nat.reduceLeDiff]
  -- behind the search for a block
  have g0 : (h.push (.cells [.int .i64 0, .int .i64 0, .int .i64 0, .int .i64 0, .bool false] 30 false)).get h.n = .cells [.int .i64 0, .int .i64 0, .int .i64 0, .int .i64 0, .bool false] 30 false := get_push_eq rfl
  refine WE_loop (fun m a h' => ∃ i : Nat, m = l.length - i ∧ i ≤ l.length ∧ a.get 0 = .pointer (some ⟨yb, 0, none⟩) ∧ a.get 1 = .int .i64 n ∧ a.get 4 = .pointer (some ⟨h.n, 0, none⟩) ∧ a.get 7 = .int .i64 (clsI n) ∧ a.get 8 = .int .i64 i ∧ a.marks = [] ∧ h' = h.push (.cells [.int .i64 0, .int .i64 0, .int .i64 0, .int .i64 0, .bool false] 30 false) ∧
    (∀ k, clsOf n = some k → runAux k 0 l = runAux k i (l.drop i))) ?_ (m := l.length) ⟨0, by omega, by omega, by simp (disch := first | assumption | omega | (simp only [push_n, set_n]; done) | (simp only [push_n, set_n]; omega) | fail) only [go_sem, ↓reduceIte, Nat.reduceEqDiff, Nat.reduceAdd, Nat.reduceMul, Int.reduceToNat, Int.reduceAdd, Int.reduceTDiv, Nat.reduceLeDiff], by simp (disch := first | assumption | omega | (simp only [push_n, set_n]; done) | (simp only [push_n, set_n]; omega) | fail) only [go_sem, ↓reduceIte, Nat.reduceEqDiff, Nat.reduceAdd, Nat.reduceMul, Int.reduceToNat, Int.reduceAdd, Int.reduceTDiv, Nat.reduceLeDiff], by simp (disch := first | assumption | omega | (simp only [push_n, set_n]; done) | (simp only [push_n, set_n]; omega) | fail) only [go_sem, ↓reduceIte, Nat.reduceEqDiff, Nat.reduceAdd, Nat.reduceMul, Int.reduceToNat, Int.reduceAdd, Int.reduceTDiv, Nat.reduceLeDiff], by simp (disch := first | assumption | omega | (simp only [push_n, set_n]; done) | (simp only [push_n, set_n]; omega) | fail) only [go_sem, ↓reduceIte, Nat.reduceEqDiff, Nat.reduceAdd, Nat.reduceMul, Int.reduceToNat, Int.reduceAdd, Int.reduceTDiv, Nat.reduceLeDiff], by simp (disch := first | assumption | omega | (simp only [push_n, set_n]; done) | (simp only [push_n, set_n]; omega) | fail) only [go_sem, ↓reduceIte, Nat.reduceEqDiff, Nat.reduceAdd, Nat.reduceMul, Int.reduceToNat, Int.reduceAdd, Int.reduceTDiv, Nat.reduceLeDiff], rfl, rfl, fun k _ => rfl⟩
  rintro m a h1 ⟨i, rfl, hil, a0, a1, a4, a7, a8, am, rfl, hrun⟩
  by_cases hgo : i < l.length ∧ n ≤ 14
  · obtain ⟨hin, hsm⟩ := hgo
    obtain ⟨k, hc⟩ : ∃ k, clsOf n = some k := by
      cases hc : clsOf n with
      | some k => exact ⟨k, rfl⟩
      | none => exact (cls_gt hc hsm).elim
    have hk := clsOf_lt hc
    have hm8 := many_pos k hk
    have hcI := clsI_of hc
    rw [hcI] at a7
    obtain ⟨o, ho⟩ : ∃ o, l[i]? = some o := ⟨_, List.getElem?_eq_getElem hin⟩
    have hto := ht o (List.mem_of_getElem? ho)
    have hne : l ≠ [] := by intro e; subst e; simp at hin
    have il := hi.l hne
    have hr := hrun k hc
    rw [runAux_drop ho] at hr
    have p0 := ref_part ho 0 1 (by omega)
    have p1 := ref_part ho 1 1 (by omega)
    rw [Nat.add_zero, show getAt o.ref 0 1 = some [.int .i64 o.c.kind] from rfl] at p0
    rw [show getAt o.ref 1 1 = some [.int .i64 o.c.cls] from rfl] at p1
    have next : roomI o k = -1 → ∀ k', clsOf n = some k' → runAux k' 0 l = runAux k' (i + 1) (l.drop (i + 1)) := fun hro k' hk' => by
      rw [hc] at hk'
      injection hk' with hk'
      subst hk'
      rw [hr, if_neg (by omega)]
    simp (disch := first | assumption | omega | (simp only [push_n, set_n]; done) | (simp only [push_n, set_n]; omega) | fail) only [go_sem, ↓reduceIte, Nat.reduceEqDiff, Nat.reduceAdd, Nat.reduceMul, Int.reduceToNat, Int.reduceAdd, Int.reduceTDiv, Nat.reduceLeDiff, a0, a1, a4, a7, a8, am, iy]
    by_cases hok : o.c.kind = 1 ∧ o.c.cls = k
    · obtain ⟨hk1, hk2⟩ := hok
      obtain ⟨k', b, ec⟩ := Ck.kind_run hk1
      rw [ec] at hk2
      obtain rfl : k' = k := hk2
      obtain ⟨c, t⟩ := o
      simp only at ec
      subst ec
      refine WE_loop (fun m a h' => ∃ j : Nat, m = manyOf k' - j ∧ j ≤ manyOf k' ∧ a.get 0 = .pointer (some ⟨yb, 0, none⟩) ∧ a.get 1 = .int .i64 n ∧ a.get 4 = .pointer (some ⟨h.n, 0, none⟩) ∧ a.get 7 = .int .i64 k' ∧ a.get 8 = .int .i64 i ∧ a.get 9 = .int .i64 j ∧ a.marks = [] ∧ h' = h.push (.cells [.int .i64 0, .int .i64 0, .int .i64 0, .int .i64 0, .bool false] 30 false) ∧
        ∀ j', j' < j → One.blk ⟨.run k' b, t⟩ j' ≠ 0) ?_ (m := manyOf k') ⟨0, by omega, by omega, by simp (disch := first | assumption | omega | (simp only [push_n, set_n]; done) | (simp only [push_n, set_n]; omega) | fail) only [go_sem, ↓reduceIte, Nat.reduceEqDiff, Nat.reduceAdd, Nat.reduceMul, Int.reduceToNat, Int.reduceAdd, Int.reduceTDiv, Nat.reduceLeDiff, a0], by simp (disch := first | assumption | omega | (simp only [push_n, set_n]; done) | (simp only [push_n, set_n]; omega) | fail) only [go_sem, ↓reduceIte, Nat.reduceEqDiff, Nat.reduceAdd, Nat.reduceMul, Int.reduceToNat, Int.reduceAdd, Int.reduceTDiv, Nat.reduceLeDiff, a1], by simp (disch := first | assumption | omega | (simp only [push_n, set_n]; done) | (simp only [push_n, set_n]; omega) | fail) only [go_sem, ↓reduceIte, Nat.reduceEqDiff, Nat.reduceAdd, Nat.reduceMul, Int.reduceToNat, Int.reduceAdd, Int.reduceTDiv, Nat.reduceLeDiff, a4], by simp (disch := first | assumption | omega | (simp only [push_n, set_n]; done) | (simp only [push_n, set_n]; omega) | fail) only [go_sem, ↓reduceIte, Nat.reduceEqDiff, Nat.reduceAdd, Nat.reduceMul, Int.reduceToNat, Int.reduceAdd, Int.reduceTDiv, Nat.reduceLeDiff, a7], by simp (disch := first | assumption | omega | (simp only [push_n, set_n]; done) | (simp only [push_n, set_n]; omega) | fail) only [go_sem, ↓reduceIte, Nat.reduceEqDiff, Nat.reduceAdd, Nat.reduceMul, Int.reduceToNat, Int.reduceAdd, Int.reduceTDiv, Nat.reduceLeDiff, a8], by simp (disch := first | assumption | omega | (simp only [push_n, set_n]; done) | (simp only [push_n, set_n]; omega) | fail) only [go_sem, ↓reduceIte, Nat.reduceEqDiff, Nat.reduceAdd, Nat.reduceMul, Int.reduceToNat, Int.reduceAdd, Int.reduceTDiv, Nat.reduceLeDiff], rfl, rfl, fun j' hj' => by omega⟩
      clear a0 a1 a4 a7 a8 am
      rintro m a2 h2 ⟨j, rfl, hjl, a0, a1, a4, a7, a8, a9, am, rfl, hno⟩
      by_cases hj : j < manyOf k'
      · have pk := ref_part ho (5 + j) 1 (by omega)
        rw [ref_blk (by omega), ← Nat.add_assoc] at pk
        simp (disch := first | assumption | omega | (simp only [push_n, set_n]; done) | (simp only [push_n, set_n]; omega) | fail) only [go_sem, ↓reduceIte, Nat.reduceEqDiff, Nat.reduceAdd, Nat.reduceMul, Int.reduceToNat, Int.reduceAdd, Int.reduceTDiv, Nat.reduceLeDiff, a0, a1, a4, a7, a8, a9, am, iy, il, p0, p1, Ck.kind, Ck.cls]
        refine f20_spec hk ?_
        by_cases hb0 : One.blk ⟨.run k' b, t⟩ j = 0
        · rw [hb0] at pk
          have hbt := blk_zero.1 hb0
          have hroom := room_at hj (by omega) hb0 hno
          rw [hroom, if_pos (by omega), Int.toNat_natCast] at hr
          have hs : takeM l n = (⟨i, j, k', 0, false⟩, 0, l.set i ⟨.run k' b, t ||| bitB j⟩) := by
            unfold takeM; rw [hc]; simp only; unfold smallM; simp only [hr, ho]
          rw [hs] at q
          have gs := ref_set (o' := ⟨.run k' b, t ||| bitB j⟩) ho (5 + j) [.int .i64 2] (by simp; omega) (ref_taken (by omega) hbt.1)
          rw [← Nat.add_assoc] at gs
          simp (disch := first | assumption | omega | (simp only [push_n, set_n]; done) | (simp only [push_n, set_n]; omega) | fail) only [go_sem, ↓reduceIte, Nat.reduceEqDiff, Nat.reduceAdd, Nat.reduceMul, Int.reduceToNat, Int.reduceAdd, Int.reduceTDiv, Nat.reduceLeDiff, a0, a1, a4, a7, a8, a9, am, iy, il, pk, ref_len, gs]
          refine q _ ⟨by (first | omega | (simp only [push_n, set_n]; done) | (simp only [push_n, set_n]; omega)), fun x hx hxl => ?_⟩ ⟨by (first | omega | (simp only [push_n, set_n]; done) | (simp only [push_n, set_n]; omega)), by (first | omega | (simp only [push_n, set_n]; done) | (simp only [push_n, set_n]; omega)), ly, ?_, fun _ => ?_⟩
          · simp (disch := first | assumption | omega | (simp only [push_n, set_n]; done) | (simp only [push_n, set_n]; omega) | fail) only [go_sem, ↓reduceIte, Nat.reduceEqDiff, Nat.reduceAdd, Nat.reduceMul, Int.reduceToNat, Int.reduceAdd, Int.reduceTDiv, Nat.reduceLeDiff]
          · simp (disch := first | assumption | omega | (simp only [push_n, set_n]; done) | (simp only [push_n, set_n]; omega) | fail) only [go_sem, ↓reduceIte, Nat.reduceEqDiff, Nat.reduceAdd, Nat.reduceMul, Int.reduceToNat, Int.reduceAdd, Int.reduceTDiv, Nat.reduceLeDiff, iy, List.length_set]
          · simp (disch := first | assumption | omega | (simp only [push_n, set_n]; done) | (simp only [push_n, set_n]; omega) | fail) only [go_sem, ↓reduceIte, Nat.reduceEqDiff, Nat.reduceAdd, Nat.reduceMul, Int.reduceToNat, Int.reduceAdd, Int.reduceTDiv, Nat.reduceLeDiff]
        · simp (disch := first | assumption | omega | (simp only [push_n, set_n]; done) | (simp only [push_n, set_n]; omega) | fail) only [go_sem, ↓reduceIte, Nat.reduceEqDiff, Nat.reduceAdd, Nat.reduceMul, Int.reduceToNat, Int.reduceAdd, Int.reduceTDiv, Nat.reduceLeDiff, a0, a1, a4, a7, a8, a9, am, iy, il, pk]
          refine ⟨_, Nat.sub_lt_sub_left hj (Nat.lt_succ_self j), j + 1, rfl, by omega, rfl, fun j' hj' => ?_⟩
          by_cases e : j' = j
          · subst e; exact hb0
          · exact hno j' (by omega)
      · obtain rfl : j = manyOf k' := by omega
        have hro := room_no (k := k') (b := b) (t := t) (by omega) hno
        simp (disch := first | assumption | omega | (simp only [push_n, set_n]; done) | (simp only [push_n, set_n]; omega) | fail) only [go_sem, ↓reduceIte, Nat.reduceEqDiff, Nat.reduceAdd, Nat.reduceMul, Int.reduceToNat, Int.reduceAdd, Int.reduceTDiv, Nat.reduceLeDiff, a0, a1, a4, a7, a8, a9, am, iy, il, p0, p1, Ck.kind, Ck.cls]
        refine f20_spec hk ?_
        simp (disch := first | assumption | omega | (simp only [push_n, set_n]; done) | (simp only [push_n, set_n]; omega) | fail) only [go_sem, ↓reduceIte, Nat.reduceEqDiff, Nat.reduceAdd, Nat.reduceMul, Int.reduceToNat, Int.reduceAdd, Int.reduceTDiv, Nat.reduceLeDiff, a0, a1, a4, a7, a8, a9, am]
        exact ⟨_, Nat.sub_lt_sub_left hin (Nat.lt_succ_self i), i + 1, rfl, by omega, by rw [hcI], rfl, next hro⟩
    · have hro : roomI o k = -1 := by
        obtain ⟨c, t⟩ := o
        cases c with
        | run k' b =>
          have : k' ≠ k := fun e => hok ⟨rfl, e⟩
          simp [roomI, this]
        | _ => rfl
      refine WE_unroll ?_
      by_cases hk1 : o.c.kind = 1
      · have hk2 : o.c.cls ≠ k := fun e => hok ⟨hk1, e⟩
        simp (disch := first | assumption | omega | (simp only [push_n, set_n]; done) | (simp only [push_n, set_n]; omega) | fail) only [go_sem, ↓reduceIte, Nat.reduceEqDiff, Nat.reduceAdd, Nat.reduceMul, Int.reduceToNat, Int.reduceAdd, Int.reduceTDiv, Nat.reduceLeDiff, a0, a1, a4, a7, a8, am, iy, il, p0, p1]
        exact ⟨_, Nat.sub_lt_sub_left hin (Nat.lt_succ_self i), i + 1, rfl, by omega, by rw [hcI], rfl, next hro⟩
      · simp (disch := first | assumption | omega | (simp only [push_n, set_n]; done) | (simp only [push_n, set_n]; omega) | fail) only [go_sem, ↓reduceIte, Nat.reduceEqDiff, Nat.reduceAdd, Nat.reduceMul, Int.reduceToNat, Int.reduceAdd, Int.reduceTDiv, Nat.reduceLeDiff, a0, a1, a4, a7, a8, am, iy, il, p0, p1]
        exact ⟨_, Nat.sub_lt_sub_left hin (Nat.lt_succ_self i), i + 1, rfl, by omega, by rw [hcI], rfl, next hro⟩
  · have hcr : chunksR n ≤ 200 := by unfold chunksR chunksOf; split <;> omega
    cases hc : clsOf n with
    | some k =>
      have hk := clsOf_lt hc
      have hle := cls_le hc
      obtain rfl : i = l.length := by
        rcases Nat.lt_or_ge i l.length with h5 | h5
        · exact (hgo ⟨h5, hle⟩).elim
        · omega
      have hr := hrun k hc
      rw [List.drop_length, show runAux k l.length [] = none from rfl] at hr
      have hcI := clsI_of hc
      rw [hcI] at a7
      have hcr0 : chunksR n = 0 := if_pos hle
      simp (disch := first | assumption | omega | (simp only [push_n, set_n]; done) | (simp only [push_n, set_n]; omega) | fail) only [go_sem, ↓reduceIte, Nat.reduceEqDiff, Nat.reduceAdd, Nat.reduceMul, Int.reduceToNat, Int.reduceAdd, Int.reduceTDiv, Nat.reduceLeDiff, a0, a1, a4, a7, a8, am, iy]
      refine f18_spec hn2 ?_
      rw [hcr0]
      simp (disch := first | assumption | omega | (simp only [push_n, set_n]; done) | (simp only [push_n, set_n]; omega) | fail) only [go_sem, ↓reduceIte, Nat.reduceEqDiff, Nat.reduceAdd, Nat.reduceMul, Int.reduceToNat, Int.reduceAdd, Int.reduceTDiv, Nat.reduceLeDiff, a0, a1, a4, a7, a8, am, iy]
      refine f55_spec (many := 1) (hi.ext (by repeat (first | assumption | exact Ext.refl _ | refine Ext.push ?_ | refine Ext.set ?_ (by omega) | refine Ext.trans ?_ (by assumption)))) ht hn (by omega) (by omega) fun h2 x2 => ?_
      have n_x2 := Ext.n_le x2; try simp only [push_n, set_n] at n_x2
      have g2 := (x2.2 h.n (by (first | omega | (simp only [push_n, set_n]; done) | (simp only [push_n, set_n]; omega)))).trans g0
      have iy2 := (x2.2 yb (by (first | omega | (simp only [push_n, set_n]; done) | (simp only [push_n, set_n]; omega)))).trans ((get_push_lt yn).trans iy)
      cases hrow : rowI (rowsOf (frees l)) 1 with
      | none =>
        have hz : rowZ l 1 = -1 := by unfold rowZ; rw [hrow]
        have hs : takeM l n = (⟨0, 0, 0, 0, false⟩, 2, l) := by
          unfold takeM; rw [hc]; simp only; unfold smallM; simp only [hr, hrow]
        rw [hs] at q
        rw [hz]
        simp (disch := first | assumption | omega | (simp only [push_n, set_n]; done) | (simp only [push_n, set_n]; omega) | fail) only [go_sem, ↓reduceIte, Nat.reduceEqDiff, Nat.reduceAdd, Nat.reduceMul, Int.reduceToNat, Int.reduceAdd, Int.reduceTDiv, Nat.reduceLeDiff, a0, a1, a4, a7, a8, am, g2]
        exact q _ (Ext.upd (by repeat (first | assumption | exact Ext.refl _ | refine Ext.push ?_ | refine Ext.set ?_ (by omega) | refine Ext.trans ?_ (by assumption)))) (hi.ext (by repeat (first | assumption | exact Ext.refl _ | refine Ext.push ?_ | refine Ext.set ?_ (by omega) | refine Ext.trans ?_ (by assumption))))
      | some i0 =>
        have hz : rowZ l 1 = i0 := by unfold rowZ; rw [hrow]
        have hi0 : i0 < l.length := by have := (rowI_lt hrow).2; simpa [frees] using this
        have hne : l ≠ [] := by intro e; subst e; simp at hi0
        have il2 := (x2.2 lb (by (first | omega | (simp only [push_n, set_n]; done) | (simp only [push_n, set_n]; omega)))).trans ((get_push_lt ln).trans (hi.l hne))
        have hs : takeM l n = (⟨i0, 0, k, 0, true⟩, 0, l.set i0 ⟨.run k 0#64, bitB 0⟩) := by
          unfold takeM; rw [hc]; simp only; unfold smallM; simp only [hr, hrow]; rfl
        rw [hs] at q
        rw [hz]
        have gs : setAt (l.map One.ref).flatten (i0 * 14) [.int .i64 1, .int .i64 k, .int .i64 0, .int .i64 0, ub 0#64, .int .i64 2, .int .i64 0, .int .i64 0, .int .i64 0, .int .i64 0, .int .i64 0, .int .i64 0, .int .i64 0, .bool false] = ((l.set i0 ⟨.run k 0#64, bitB 0⟩).map One.ref).flatten := by
          rw [← ref_fresh]; exact ref_set0 (o' := ⟨.run k 0#64, bitB 0⟩) hi0
        simp (disch := first | assumption | omega | (simp only [push_n, set_n]; done) | (simp only [push_n, set_n]; omega) | fail) only [go_sem, ↓reduceIte, Nat.reduceEqDiff, Nat.reduceAdd, Nat.reduceMul, Int.reduceToNat, Int.reduceAdd, Int.reduceTDiv, Nat.reduceLeDiff, a0, a1, a4, a7, a8, am, g2, iy2, il2, ref_len, gs]
        refine q _ ⟨by (first | omega | (simp only [push_n, set_n]; done) | (simp only [push_n, set_n]; omega)), fun x hx hxl => ?_⟩ ⟨by (first | omega | (simp only [push_n, set_n]; done) | (simp only [push_n, set_n]; omega)), by (first | omega | (simp only [push_n, set_n]; done) | (simp only [push_n, set_n]; omega)), ly, ?_, fun _ => ?_⟩
        · simp (disch := first | assumption | omega | (simp only [push_n, set_n]; done) | (simp only [push_n, set_n]; omega) | fail) only [go_sem, ↓reduceIte, Nat.reduceEqDiff, Nat.reduceAdd, Nat.reduceMul, Int.reduceToNat, Int.reduceAdd, Int.reduceTDiv, Nat.reduceLeDiff, x2.2]
        · simp (disch := first | assumption | omega | (simp only [push_n, set_n]; done) | (simp only [push_n, set_n]; omega) | fail) only [go_sem, ↓reduceIte, Nat.reduceEqDiff, Nat.reduceAdd, Nat.reduceMul, Int.reduceToNat, Int.reduceAdd, Int.reduceTDiv, Nat.reduceLeDiff, x2.2, iy, List.length_set]
        · simp (disch := first | assumption | omega | (simp only [push_n, set_n]; done) | (simp only [push_n, set_n]; omega) | fail) only [go_sem, ↓reduceIte, Nat.reduceEqDiff, Nat.reduceAdd, Nat.reduceMul, Int.reduceToNat, Int.reduceAdd, Int.reduceTDiv, Nat.reduceLeDiff]
    | none =>
      have hgt := cls_gt hc
      have hcI := clsI_none hc
      rw [hcI] at a7
      have hcr0 : chunksR n = chunksOf n := if_neg hgt
      have hm1 : 1 ≤ chunksOf n ∧ chunksOf n ≤ 200 := by unfold chunksOf; omega
      by_cases h5 : i < l.length
      · simp (disch := first | assumption | omega | (simp only [push_n, set_n]; done) | (simp only [push_n, set_n]; omega) | fail) only [go_sem, ↓reduceIte, Nat.reduceEqDiff, Nat.reduceAdd, Nat.reduceMul, Int.reduceToNat, Int.reduceAdd, Int.reduceTDiv, Nat.reduceLeDiff, a0, a1, a4, a7, a8, am, iy]
        refine f18_spec hn2 ?_
        rw [hcr0]
        simp (disch := first | assumption | omega | (simp only [push_n, set_n]; done) | (simp only [push_n, set_n]; omega) | fail) only [go_sem, ↓reduceIte, Nat.reduceEqDiff, Nat.reduceAdd, Nat.reduceMul, Int.reduceToNat, Int.reduceAdd, Int.reduceTDiv, Nat.reduceLeDiff, a0, a1, a4, a7, a8, am, iy]
        refine f55_spec (many := chunksOf n) (hi.ext (by repeat (first | assumption | exact Ext.refl _ | refine Ext.push ?_ | refine Ext.set ?_ (by omega) | refine Ext.trans ?_ (by assumption)))) ht hn (by omega) (by omega) fun h2 x2 => ?_
        have n_x2 := Ext.n_le x2; try simp only [push_n, set_n] at n_x2
        have g2 := (x2.2 h.n (by (first | omega | (simp only [push_n, set_n]; done) | (simp only [push_n, set_n]; omega)))).trans g0
        have iy2 := (x2.2 yb (by (first | omega | (simp only [push_n, set_n]; done) | (simp only [push_n, set_n]; omega)))).trans ((get_push_lt yn).trans iy)
        have et : takeM l n = largeM l (chunksOf n) := by unfold takeM; rw [hc]
        rw [et] at q
        generalize chunksOf n = many at *
        cases hrow : rowI (rowsOf (frees l)) many with
        | none =>
          have hz : rowZ l many = -1 := by unfold rowZ; rw [hrow]
          have hs : largeM l many = (⟨0, 0, 0, 0, false⟩, 2, l) := by unfold largeM; simp only [hrow]
          rw [hs] at q
          rw [hz]
          simp (disch := first | assumption | omega | (simp only [push_n, set_n]; done) | (simp only [push_n, set_n]; omega) | fail) only [go_sem, ↓reduceIte, Nat.reduceEqDiff, Nat.reduceAdd, Nat.reduceMul, Int.reduceToNat, Int.reduceAdd, Int.reduceTDiv, Nat.reduceLeDiff, a0, a1, a4, a7, a8, am, g2]
          exact q _ (Ext.upd (by repeat (first | assumption | exact Ext.refl _ | refine Ext.push ?_ | refine Ext.set ?_ (by omega) | refine Ext.trans ?_ (by assumption)))) (hi.ext (by repeat (first | assumption | exact Ext.refl _ | refine Ext.push ?_ | refine Ext.set ?_ (by omega) | refine Ext.trans ?_ (by assumption))))
        | some i0 =>
          have hz : rowZ l many = i0 := by unfold rowZ; rw [hrow]
          have hi0 := rowI_lt hrow
          rw [show (frees l).length = l.length by simp [frees]] at hi0
          have hne : l ≠ [] := by intro e; subst e; simp at hi0
          have il2 := (x2.2 lb (by (first | omega | (simp only [push_n, set_n]; done) | (simp only [push_n, set_n]; omega)))).trans ((get_push_lt ln).trans (hi.l hne))
          have hs : largeM l many = (⟨i0, 0, -1, many, false⟩, 0, (fillM l i0 many ⟨.tail, 0#64⟩).set i0 ⟨.huge many, 1#64⟩) := by unfold largeM; simp only [hrow]
          rw [hs] at q
          rw [hz]
          simp (disch := first | assumption | omega | (simp only [push_n, set_n]; done) | (simp only [push_n, set_n]; omega) | fail) only [go_sem, ↓reduceIte, Nat.reduceEqDiff, Nat.reduceAdd, Nat.reduceMul, Int.reduceToNat, Int.reduceAdd, Int.reduceTDiv, Nat.reduceLeDiff, a0, a1, a4, a7, a8, am]
          refine WE_loop (fun m a h' => ∃ j : Nat, m = many - j ∧ 1 ≤ j ∧ j ≤ many ∧ a.get 0 = .pointer (some ⟨yb, 0, none⟩) ∧ a.get 4 = .pointer (some ⟨h.n, 0, none⟩) ∧ a.get 10 = .int .i64 many ∧ a.get 11 = .int .i64 i0 ∧ a.get 12 = .int .i64 j ∧ a.marks = [] ∧ h2.n = h'.n ∧ (∀ x, x < h2.n → x ≠ lb → h'.get x = h2.get x) ∧
            h'.get lb = .cells ((fillM l (i0 + 1) (j - 1) ⟨.tail, 0#64⟩).map One.ref).flatten 90 false) ?_ (m := many - 1) ⟨1, by omega, by omega, by omega, by simp (disch := first | assumption | omega | (simp only [push_n, set_n]; done) | (simp only [push_n, set_n]; omega) | fail) only [go_sem, ↓reduceIte, Nat.reduceEqDiff, Nat.reduceAdd, Nat.reduceMul, Int.reduceToNat, Int.reduceAdd, Int.reduceTDiv, Nat.reduceLeDiff, a0], by simp (disch := first | assumption | omega | (simp only [push_n, set_n]; done) | (simp only [push_n, set_n]; omega) | fail) only [go_sem, ↓reduceIte, Nat.reduceEqDiff, Nat.reduceAdd, Nat.reduceMul, Int.reduceToNat, Int.reduceAdd, Int.reduceTDiv, Nat.reduceLeDiff, a4], by simp (disch := first | assumption | omega | (simp only [push_n, set_n]; done) | (simp only [push_n, set_n]; omega) | fail) only [go_sem, ↓reduceIte, Nat.reduceEqDiff, Nat.reduceAdd, Nat.reduceMul, Int.reduceToNat, Int.reduceAdd, Int.reduceTDiv, Nat.reduceLeDiff], by simp (disch := first | assumption | omega | (simp only [push_n, set_n]; done) | (simp only [push_n, set_n]; omega) | fail) only [go_sem, ↓reduceIte, Nat.reduceEqDiff, Nat.reduceAdd, Nat.reduceMul, Int.reduceToNat, Int.reduceAdd, Int.reduceTDiv, Nat.reduceLeDiff], by simp (disch := first | assumption | omega | (simp only [push_n, set_n]; done) | (simp only [push_n, set_n]; omega) | fail) only [go_sem, ↓reduceIte, Nat.reduceEqDiff, Nat.reduceAdd, Nat.reduceMul, Int.reduceToNat, Int.reduceAdd, Int.reduceTDiv, Nat.reduceLeDiff], rfl, rfl, fun _ _ _ => rfl, il2⟩
          clear a0 a1 a4 a7 a8 am
          rintro m a3 h3 ⟨j, rfl, hj1, hjm, a0, a4, a10, a11, a12, am, n3, g3, gl3⟩
          have iy3 := (g3 yb (by omega) (Ne.symm ly)).trans iy2
          by_cases hjn : j < many
          · have gs : setAt ((fillM l (i0 + 1) (j - 1) ⟨.tail, 0#64⟩).map One.ref).flatten ((i0 + j) * 14) [.int .i64 3, .int .i64 0, .int .i64 0, .int .i64 0, ub 0#64, .int .i64 0, .int .i64 0, .int .i64 0, .int .i64 0, .int .i64 0, .int .i64 0, .int .i64 0, .int .i64 0, .bool false] = ((fillM l (i0 + 1) (j + 1 - 1) ⟨.tail, 0#64⟩).map One.ref).flatten := by
              obtain ⟨j', rfl⟩ : ∃ j', j = j' + 1 := ⟨j - 1, by omega⟩
              rw [Nat.add_sub_cancel, Nat.add_sub_cancel, fillM_succ, show i0 + 1 + j' = i0 + (j' + 1) by omega]
              exact ref_set0 (o' := ⟨.tail, 0#64⟩) (by rw [fillM_length]; omega)
            have ei : ((i0 : Int) + (j : Int)).toNat = i0 + j := by omega
            simp (disch := first | assumption | omega | (simp only [push_n, set_n]; done) | (simp only [push_n, set_n]; omega) | fail) only [go_sem, ↓reduceIte, Nat.reduceEqDiff, Nat.reduceAdd, Nat.reduceMul, Int.reduceToNat, Int.reduceAdd, Int.reduceTDiv, Nat.reduceLeDiff, a0, a4, a10, a11, a12, am, iy3, gl3, ref_len, fillM_length, ei, gs]
            refine ⟨_, Nat.sub_lt_sub_left hjn (Nat.lt_succ_self j), j + 1, rfl, by omega, by omega, rfl, n3, fun x hx hxl => ?_, rfl⟩
            simp (disch := first | assumption | omega | (simp only [push_n, set_n]; done) | (simp only [push_n, set_n]; omega) | fail) only [go_sem, ↓reduceIte, Nat.reduceEqDiff, Nat.reduceAdd, Nat.reduceMul, Int.reduceToNat, Int.reduceAdd, Int.reduceTDiv, Nat.reduceLeDiff, g3]
          · obtain rfl : j = many := by omega
            have gs : setAt ((fillM l (i0 + 1) (j - 1) ⟨.tail, 0#64⟩).map One.ref).flatten (i0 * 14) [.int .i64 2, .int .i64 0, .int .i64 0, .int .i64 j, ub 0#64, .int .i64 0, .int .i64 0, .int .i64 0, .int .i64 0, .int .i64 0, .int .i64 0, .int .i64 0, .int .i64 0, .bool true] = (((fillM l i0 j ⟨.tail, 0#64⟩).set i0 ⟨.huge j, 1#64⟩).map One.ref).flatten := by
              rw [← fill_alike hj1]
              exact ref_set0 (o' := ⟨.huge j, 1#64⟩) (by rw [fillM_length]; omega)
            have g3' := (g3 h.n (by omega) (by omega)).trans g2
            simp (disch := first | assumption | omega | (simp only [push_n, set_n]; done) | (simp only [push_n, set_n]; omega) | fail) only [go_sem, ↓reduceIte, Nat.reduceEqDiff, Nat.reduceAdd, Nat.reduceMul, Int.reduceToNat, Int.reduceAdd, Int.reduceTDiv, Nat.reduceLeDiff, a0, a4, a10, a11, a12, am, iy3, gl3, ref_len, fillM_length, gs, g3']
            refine q _ ⟨by (first | omega | (simp only [push_n, set_n]; done) | (simp only [push_n, set_n]; omega)), fun x hx hxl => ?_⟩ ⟨by (first | omega | (simp only [push_n, set_n]; done) | (simp only [push_n, set_n]; omega)), by (first | omega | (simp only [push_n, set_n]; done) | (simp only [push_n, set_n]; omega)), ly, ?_, fun _ => ?_⟩
            · simp (disch := first | assumption | omega | (simp only [push_n, set_n]; done) | (simp only [push_n, set_n]; omega) | fail) only [go_sem, ↓reduceIte, Nat.reduceEqDiff, Nat.reduceAdd, Nat.reduceMul, Int.reduceToNat, Int.reduceAdd, Int.reduceTDiv, Nat.reduceLeDiff, g3, x2.2]
            · simp (disch := first | assumption | omega | (simp only [push_n, set_n]; done) | (simp only [push_n, set_n]; omega) | fail) only [go_sem, ↓reduceIte, Nat.reduceEqDiff, Nat.reduceAdd, Nat.reduceMul, Int.reduceToNat, Int.reduceAdd, Int.reduceTDiv, Nat.reduceLeDiff, iy3, List.length_set, fillM_length]
            · simp (disch := first | assumption | omega | (simp only [push_n, set_n]; done) | (simp only [push_n, set_n]; omega) | fail) only [go_sem, ↓reduceIte, Nat.reduceEqDiff, Nat.reduceAdd, Nat.reduceMul, Int.reduceToNat, Int.reduceAdd, Int.reduceTDiv, Nat.reduceLeDiff]
      · simp (disch := first | assumption | omega | (simp only [push_n, set_n]; done) | (simp only [push_n, set_n]; omega) | fail) only [go_sem, ↓reduceIte, Nat.reduceEqDiff, Nat.reduceAdd, Nat.reduceMul, Int.reduceToNat, Int.reduceAdd, Int.reduceTDiv, Nat.reduceLeDiff, a0, a1, a4, a7, a8, am, iy]
        refine f18_spec hn2 ?_
        rw [hcr0]
        simp (disch := first | assumption | omega | (simp only [push_n, set_n]; done) | (simp only [push_n, set_n]; omega) | fail) only [go_sem, ↓reduceIte, Nat.reduceEqDiff, Nat.reduceAdd, Nat.reduceMul, Int.reduceToNat, Int.reduceAdd, Int.reduceTDiv, Nat.reduceLeDiff, a0, a1, a4, a7, a8, am, iy]
        refine f55_spec (many := chunksOf n) (hi.ext (by repeat (first | assumption | exact Ext.refl _ | refine Ext.push ?_ | refine Ext.set ?_ (by omega) | refine Ext.trans ?_ (by assumption)))) ht hn (by omega) (by omega) fun h2 x2 => ?_
        have n_x2 := Ext.n_le x2; try simp only [push_n, set_n] at n_x2
        have g2 := (x2.2 h.n (by (first | omega | (simp only [push_n, set_n]; done) | (simp only [push_n, set_n]; omega)))).trans g0
        have iy2 := (x2.2 yb (by (first | omega | (simp only [push_n, set_n]; done) | (simp only [push_n, set_n]; omega)))).trans ((get_push_lt yn).trans iy)
        have et : takeM l n = largeM l (chunksOf n) := by unfold takeM; rw [hc]
        rw [et] at q
        generalize chunksOf n = many at *
        cases hrow : rowI (rowsOf (frees l)) many with
        | none =>
          have hz : rowZ l many = -1 := by unfold rowZ; rw [hrow]
          have hs : largeM l many = (⟨0, 0, 0, 0, false⟩, 2, l) := by unfold largeM; simp only [hrow]
          rw [hs] at q
          rw [hz]
          simp (disch := first | assumption | omega | (simp only [push_n, set_n]; done) | (simp only [push_n, set_n]; omega) | fail) only [go_sem, ↓reduceIte, Nat.reduceEqDiff, Nat.reduceAdd, Nat.reduceMul, Int.reduceToNat, Int.reduceAdd, Int.reduceTDiv, Nat.reduceLeDiff, a0, a1, a4, a7, a8, am, g2]
          exact q _ (Ext.upd (by repeat (first | assumption | exact Ext.refl _ | refine Ext.push ?_ | refine Ext.set ?_ (by omega) | refine Ext.trans ?_ (by assumption)))) (hi.ext (by repeat (first | assumption | exact Ext.refl _ | refine Ext.push ?_ | refine Ext.set ?_ (by omega) | refine Ext.trans ?_ (by assumption))))
        | some i0 =>
          have hz : rowZ l many = i0 := by unfold rowZ; rw [hrow]
          have hi0 := rowI_lt hrow
          rw [show (frees l).length = l.length by simp [frees]] at hi0
          have hne : l ≠ [] := by intro e; subst e; simp at hi0
          have il2 := (x2.2 lb (by (first | omega | (simp only [push_n, set_n]; done) | (simp only [push_n, set_n]; omega)))).trans ((get_push_lt ln).trans (hi.l hne))
          have hs : largeM l many = (⟨i0, 0, -1, many, false⟩, 0, (fillM l i0 many ⟨.tail, 0#64⟩).set i0 ⟨.huge many, 1#64⟩) := by unfold largeM; simp only [hrow]
          rw [hs] at q
          rw [hz]
          simp (disch := first | assumption | omega | (simp only [push_n, set_n]; done) | (simp only [push_n, set_n]; omega) | fail) only [go_sem, ↓reduceIte, Nat.reduceEqDiff, Nat.reduceAdd, Nat.reduceMul, Int.reduceToNat, Int.reduceAdd, Int.reduceTDiv, Nat.reduceLeDiff, a0, a1, a4, a7, a8, am]
          refine WE_loop (fun m a h' => ∃ j : Nat, m = many - j ∧ 1 ≤ j ∧ j ≤ many ∧ a.get 0 = .pointer (some ⟨yb, 0, none⟩) ∧ a.get 4 = .pointer (some ⟨h.n, 0, none⟩) ∧ a.get 10 = .int .i64 many ∧ a.get 11 = .int .i64 i0 ∧ a.get 12 = .int .i64 j ∧ a.marks = [] ∧ h2.n = h'.n ∧ (∀ x, x < h2.n → x ≠ lb → h'.get x = h2.get x) ∧
            h'.get lb = .cells ((fillM l (i0 + 1) (j - 1) ⟨.tail, 0#64⟩).map One.ref).flatten 90 false) ?_ (m := many - 1) ⟨1, by omega, by omega, by omega, by simp (disch := first | assumption | omega | (simp only [push_n, set_n]; done) | (simp only [push_n, set_n]; omega) | fail) only [go_sem, ↓reduceIte, Nat.reduceEqDiff, Nat.reduceAdd, Nat.reduceMul, Int.reduceToNat, Int.reduceAdd, Int.reduceTDiv, Nat.reduceLeDiff, a0], by simp (disch := first | assumption | omega | (simp only [push_n, set_n]; done) | (simp only [push_n, set_n]; omega) | fail) only [go_sem, ↓reduceIte, Nat.reduceEqDiff, Nat.reduceAdd, Nat.reduceMul, Int.reduceToNat, Int.reduceAdd, Int.reduceTDiv, Nat.reduceLeDiff, a4], by simp (disch := first | assumption | omega | (simp only [push_n, set_n]; done) | (simp only [push_n, set_n]; omega) | fail) only [go_sem, ↓reduceIte, Nat.reduceEqDiff, Nat.reduceAdd, Nat.reduceMul, Int.reduceToNat, Int.reduceAdd, Int.reduceTDiv, Nat.reduceLeDiff], by simp (disch := first | assumption | omega | (simp only [push_n, set_n]; done) | (simp only [push_n, set_n]; omega) | fail) only [go_sem, ↓reduceIte, Nat.reduceEqDiff, Nat.reduceAdd, Nat.reduceMul, Int.reduceToNat, Int.reduceAdd, Int.reduceTDiv, Nat.reduceLeDiff], by simp (disch := first | assumption | omega | (simp only [push_n, set_n]; done) | (simp only [push_n, set_n]; omega) | fail) only [go_sem, ↓reduceIte, Nat.reduceEqDiff, Nat.reduceAdd, Nat.reduceMul, Int.reduceToNat, Int.reduceAdd, Int.reduceTDiv, Nat.reduceLeDiff], rfl, rfl, fun _ _ _ => rfl, il2⟩
          clear a0 a1 a4 a7 a8 am
          rintro m a3 h3 ⟨j, rfl, hj1, hjm, a0, a4, a10, a11, a12, am, n3, g3, gl3⟩
          have iy3 := (g3 yb (by omega) (Ne.symm ly)).trans iy2
          by_cases hjn : j < many
          · have gs : setAt ((fillM l (i0 + 1) (j - 1) ⟨.tail, 0#64⟩).map One.ref).flatten ((i0 + j) * 14) [.int .i64 3, .int .i64 0, .int .i64 0, .int .i64 0, ub 0#64, .int .i64 0, .int .i64 0, .int .i64 0, .int .i64 0, .int .i64 0, .int .i64 0, .int .i64 0, .int .i64 0, .bool false] = ((fillM l (i0 + 1) (j + 1 - 1) ⟨.tail, 0#64⟩).map One.ref).flatten := by
              obtain ⟨j', rfl⟩ : ∃ j', j = j' + 1 := ⟨j - 1, by omega⟩
              rw [Nat.add_sub_cancel, Nat.add_sub_cancel, fillM_succ, show i0 + 1 + j' = i0 + (j' + 1) by omega]
              exact ref_set0 (o' := ⟨.tail, 0#64⟩) (by rw [fillM_length]; omega)
            have ei : ((i0 : Int) + (j : Int)).toNat = i0 + j := by omega
            simp (disch := first | assumption | omega | (simp only [push_n, set_n]; done) | (simp only [push_n, set_n]; omega) | fail) only [go_sem, ↓reduceIte, Nat.reduceEqDiff, Nat.reduceAdd, Nat.reduceMul, Int.reduceToNat, Int.reduceAdd, Int.reduceTDiv, Nat.reduceLeDiff, a0, a4, a10, a11, a12, am, iy3, gl3, ref_len, fillM_length, ei, gs]
            refine ⟨_, Nat.sub_lt_sub_left hjn (Nat.lt_succ_self j), j + 1, rfl, by omega, by omega, rfl, n3, fun x hx hxl => ?_, rfl⟩
            simp (disch := first | assumption | omega | (simp only [push_n, set_n]; done) | (simp only [push_n, set_n]; omega) | fail) only [go_sem, ↓reduceIte, Nat.reduceEqDiff, Nat.reduceAdd, Nat.reduceMul, Int.reduceToNat, Int.reduceAdd, Int.reduceTDiv, Nat.reduceLeDiff, g3]
          · obtain rfl : j = many := by omega
            have gs : setAt ((fillM l (i0 + 1) (j - 1) ⟨.tail, 0#64⟩).map One.ref).flatten (i0 * 14) [.int .i64 2, .int .i64 0, .int .i64 0, .int .i64 j, ub 0#64, .int .i64 0, .int .i64 0, .int .i64 0, .int .i64 0, .int .i64 0, .int .i64 0, .int .i64 0, .int .i64 0, .bool true] = (((fillM l i0 j ⟨.tail, 0#64⟩).set i0 ⟨.huge j, 1#64⟩).map One.ref).flatten := by
              rw [← fill_alike hj1]
              exact ref_set0 (o' := ⟨.huge j, 1#64⟩) (by rw [fillM_length]; omega)
            have g3' := (g3 h.n (by omega) (by omega)).trans g2
            simp (disch := first | assumption | omega | (simp only [push_n, set_n]; done) | (simp only [push_n, set_n]; omega) | fail) only [go_sem, ↓reduceIte, Nat.reduceEqDiff, Nat.reduceAdd, Nat.reduceMul, Int.reduceToNat, Int.reduceAdd, Int.reduceTDiv, Nat.reduceLeDiff, a0, a4, a10, a11, a12, am, iy3, gl3, ref_len, fillM_length, gs, g3']
            refine q _ ⟨by (first | omega | (simp only [push_n, set_n]; done) | (simp only [push_n, set_n]; omega)), fun x hx hxl => ?_⟩ ⟨by (first | omega | (simp only [push_n, set_n]; done) | (simp only [push_n, set_n]; omega)), by (first | omega | (simp only [push_n, set_n]; done) | (simp only [push_n, set_n]; omega)), ly, ?_, fun _ => ?_⟩
            · simp (disch := first | assumption | omega | (simp only [push_n, set_n]; done) | (simp only [push_n, set_n]; omega) | fail) only [go_sem, ↓reduceIte, Nat.reduceEqDiff, Nat.reduceAdd, Nat.reduceMul, Int.reduceToNat, Int.reduceAdd, Int.reduceTDiv, Nat.reduceLeDiff, g3, x2.2]
            · simp (disch := first | assumption | omega | (simp only [push_n, set_n]; done) | (simp only [push_n, set_n]; omega) | fail) only [go_sem, ↓reduceIte, Nat.reduceEqDiff, Nat.reduceAdd, Nat.reduceMul, Int.reduceToNat, Int.reduceAdd, Int.reduceTDiv, Nat.reduceLeDiff, iy3, List.length_set, fillM_length]
            · simp (disch := first | assumption | omega | (simp only [push_n, set_n]; done) | (simp only [push_n, set_n]; omega) | fail) only [go_sem, ↓reduceIte, Nat.reduceEqDiff, Nat.reduceAdd, Nat.reduceMul, Int.reduceToNat, Int.reduceAdd, Int.reduceTDiv, Nat.reduceLeDiff]
end Go.Am.YtdcppkhobfbpeaaDoor
