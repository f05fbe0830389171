/-
  The document's answer: classes, chunks.
-/
import Derived.Test.YtdcppkhobfbpeaaDoorD10
set_option linter.unusedVariables false
set_option linter.unusedSimpArgs false
namespace Go.Am.YtdcppkhobfbpeaaDoor
open Go Go.Am Go.Proofs

theorem f40_spec {h : Heap} {Q : Value → Heap → Prop} {k : Nat} (q : Q (.int .i64 (blockOf k)) h) : WC T (.func (.func 40) #[] #[]) [.int .i64 k] h Q := by
  refine WC_fn T40 rfl ?_
  by_cases h0 : k = 0
  · subst h0
    simp (disch := first | assumption | omega | (simp only [push_n, set_n]; done) | (simp only [push_n, set_n]; omega) | fail) only [go_sem, ↓reduceIte, Nat.reduceEqDiff, Nat.reduceAdd, Nat.reduceMul, Int.reduceToNat, Int.reduceAdd, Int.reduceTDiv, Nat.reduceLeDiff, ir40]
    exact q
  by_cases h1 : k = 1
  · subst h1
    simp (disch := first | assumption | omega | (simp only [push_n, set_n]; done) | (simp only [push_n, set_n]; omega) | fail) only [go_sem, ↓reduceIte, Nat.reduceEqDiff, Nat.reduceAdd, Nat.reduceMul, Int.reduceToNat, Int.reduceAdd, Int.reduceTDiv, Nat.reduceLeDiff, ir40]
    exact q
  by_cases h2 : k = 2
  · subst h2
    simp (disch := first | assumption | omega | (simp only [push_n, set_n]; done) | (simp only [push_n, set_n]; omega) | fail) only [go_sem, ↓reduceIte, Nat.reduceEqDiff, Nat.reduceAdd, Nat.reduceMul, Int.reduceToNat, Int.reduceAdd, Int.reduceTDiv, Nat.reduceLeDiff, ir40]
    exact q
  rw [show blockOf k = 0 by unfold blockOf; rw [if_neg h0, if_neg h1, if_neg h2]] at q
  simp (disch := first | assumption | omega | (simp only [push_n, set_n]; done) | (simp only [push_n, set_n]; omega) | fail) only [go_sem, ↓reduceIte, Nat.reduceEqDiff, Nat.reduceAdd, Nat.reduceMul, Int.reduceToNat, Int.reduceAdd, Int.reduceTDiv, Nat.reduceLeDiff, ir40]
  exact q

theorem f20_aux {h : Heap} {Q : Value → Heap → Prop} {k b : Nat} (hb : blockOf k = b) (m : Nat) (hbm : m * b ≤ 32 ∧ 32 < (m + 1) * b) (hm : m ≤ 8) (hb16 : 4 ≤ b ∧ b ≤ 16) (q : Q (.int .i64 m) h) (e : (∀ n : Nat, n < m → (n + 1) * b ≤ 32)) : WC T (.func (.func 20) #[] #[]) [.int .i64 k] h Q := by
  refine WC_fn T20 rfl ?_
  simp (disch := first | assumption | omega | (simp only [push_n, set_n]; done) | (simp only [push_n, set_n]; omega) | fail) only [go_sem, ↓reduceIte, Nat.reduceEqDiff, Nat.reduceAdd, Nat.reduceMul, Int.reduceToNat, Int.reduceAdd, Int.reduceTDiv, Nat.reduceLeDiff, ir20]
  refine WE_loop (fun t a h' => ∃ n : Nat, t = m - n ∧ n ≤ m ∧ h' = h ∧ a.get 0 = .int .i64 k ∧ a.get 3 = .int .i64 n ∧ a.marks = []) ?_ (m := m) ⟨0, by omega, by omega, rfl, by simp (disch := first | assumption | omega | (simp only [push_n, set_n]; done) | (simp only [push_n, set_n]; omega) | fail) only [go_sem, ↓reduceIte, Nat.reduceEqDiff, Nat.reduceAdd, Nat.reduceMul, Int.reduceToNat, Int.reduceAdd, Int.reduceTDiv, Nat.reduceLeDiff], by simp (disch := first | assumption | omega | (simp only [push_n, set_n]; done) | (simp only [push_n, set_n]; omega) | fail) only [go_sem, ↓reduceIte, Nat.reduceEqDiff, Nat.reduceAdd, Nat.reduceMul, Int.reduceToNat, Int.reduceAdd, Int.reduceTDiv, Nat.reduceLeDiff], rfl⟩
  rintro t a h1 ⟨n, rfl, hn, rfl, a0, a3, am⟩
  simp (disch := first | assumption | omega | (simp only [push_n, set_n]; done) | (simp only [push_n, set_n]; omega) | fail) only [go_sem, ↓reduceIte, Nat.reduceEqDiff, Nat.reduceAdd, Nat.reduceMul, Int.reduceToNat, Int.reduceAdd, Int.reduceTDiv, Nat.reduceLeDiff, a0, a3, am]
  refine f40_spec ?_
  rw [hb]
  simp (disch := first | assumption | omega | (simp only [push_n, set_n]; done) | (simp only [push_n, set_n]; omega) | fail) only [go_sem, ↓reduceIte, Nat.reduceEqDiff, Nat.reduceAdd, Nat.reduceMul, Int.reduceToNat, Int.reduceAdd, Int.reduceTDiv, Nat.reduceLeDiff, a0, a3, am]
  refine f40_spec ?_
  rw [hb]
  have hcast : ((n : Int) + 1) * (b : Int) = ((n + 1) * b : Nat) := by simp
  by_cases hlt : n < m
  · have h1 := e n hlt
    simp (disch := first | assumption | omega | (simp only [push_n, set_n]; done) | (simp only [push_n, set_n]; omega) | fail) only [go_sem, ↓reduceIte, Nat.reduceEqDiff, Nat.reduceAdd, Nat.reduceMul, Int.reduceToNat, Int.reduceAdd, Int.reduceTDiv, Nat.reduceLeDiff, a0, a3, am, hcast]
    exact ⟨_, Nat.sub_lt_sub_left hlt (Nat.lt_succ_self n), n + 1, rfl, by omega, rfl⟩
  · obtain rfl : n = m := by omega
    have h2 := hbm.2
    have h3 : (n + 1) * b ≤ 9 * 16 := Nat.mul_le_mul (by omega) hb16.2
    simp (disch := first | assumption | omega | (simp only [push_n, set_n]; done) | (simp only [push_n, set_n]; omega) | fail) only [go_sem, ↓reduceIte, Nat.reduceEqDiff, Nat.reduceAdd, Nat.reduceMul, Int.reduceToNat, Int.reduceAdd, Int.reduceTDiv, Nat.reduceLeDiff, a0, a3, am, hcast]
    exact q
theorem f20_spec {h : Heap} {Q : Value → Heap → Prop} {k : Nat} (hk : k < 3) (q : Q (.int .i64 (manyOf k)) h) : WC T (.func (.func 20) #[] #[]) [.int .i64 k] h Q := by
  have : k = 0 ∨ k = 1 ∨ k = 2 := by omega
  rcases this with rfl | rfl | rfl
  · exact f20_aux (b := 4) rfl 8 (by omega) (by omega) (by omega) q (fun n hn => by omega)
  · exact f20_aux (b := 8) rfl 4 (by omega) (by omega) (by omega) q (fun n hn => by omega)
  · exact f20_aux (b := 16) rfl 2 (by omega) (by omega) (by omega) q (fun n hn => by omega)

theorem f75_spec {h : Heap} {Q : Value → Heap → Prop} {n : Nat} (hn : n ≤ 63) (q : Q (ub (bitB n)) h) : WC T (.func (.func 75) #[] #[]) [.int .i64 n] h Q := by
  refine WC_fn T75 rfl ?_
  simp (disch := first | assumption | omega | (simp only [push_n, set_n]; done) | (simp only [push_n, set_n]; omega) | fail) only [go_sem, ↓reduceIte, Nat.reduceEqDiff, Nat.reduceAdd, Nat.reduceMul, Int.reduceToNat, Int.reduceAdd, Int.reduceTDiv, Nat.reduceLeDiff, ir75]
  refine WE_loop (fun t a h' => ∃ k : Nat, t = n - k ∧ k ≤ n ∧ h' = h ∧ a.get 0 = .int .i64 n ∧ a.get 3 = ub (bitB k) ∧ a.get 4 = .int .i64 k ∧ a.marks = []) ?_ (m := n) ⟨0, by omega, by omega, rfl, by simp (disch := first | assumption | omega | (simp only [push_n, set_n]; done) | (simp only [push_n, set_n]; omega) | fail) only [go_sem, ↓reduceIte, Nat.reduceEqDiff, Nat.reduceAdd, Nat.reduceMul, Int.reduceToNat, Int.reduceAdd, Int.reduceTDiv, Nat.reduceLeDiff], by simp (disch := first | assumption | omega | (simp only [push_n, set_n]; done) | (simp only [push_n, set_n]; omega) | fail) only [go_sem, ↓reduceIte, Nat.reduceEqDiff, Nat.reduceAdd, Nat.reduceMul, Int.reduceToNat, Int.reduceAdd, Int.reduceTDiv, Nat.reduceLeDiff]; rfl, by simp (disch := first | assumption | omega | (simp only [push_n, set_n]; done) | (simp only [push_n, set_n]; omega) | fail) only [go_sem, ↓reduceIte, Nat.reduceEqDiff, Nat.reduceAdd, Nat.reduceMul, Int.reduceToNat, Int.reduceAdd, Int.reduceTDiv, Nat.reduceLeDiff], rfl⟩
  rintro t a h1 ⟨k, rfl, hk, rfl, a0, a3, a4, am⟩
  by_cases hlt : k < n
  · have h2 : 2#64 * bitB k = bitB (k + 1) := by
      unfold bitB
      apply BitVec.eq_of_toNat_eq
      rw [BitVec.toNat_mul, BitVec.toNat_shiftLeft, BitVec.toNat_shiftLeft, Nat.shiftLeft_eq, Nat.shiftLeft_eq, Nat.pow_succ]
      simp
      omega
    simp (disch := first | assumption | omega | (simp only [push_n, set_n]; done) | (simp only [push_n, set_n]; omega) | fail) only [go_sem, ↓reduceIte, Nat.reduceEqDiff, Nat.reduceAdd, Nat.reduceMul, Int.reduceToNat, Int.reduceAdd, Int.reduceTDiv, Nat.reduceLeDiff, a0, a3, a4, am, h2]
    exact ⟨_, Nat.sub_lt_sub_left hlt (Nat.lt_succ_self k), k + 1, rfl, by omega, rfl, rfl⟩
  · obtain rfl : k = n := by omega
    simp (disch := first | assumption | omega | (simp only [push_n, set_n]; done) | (simp only [push_n, set_n]; omega) | fail) only [go_sem, ↓reduceIte, Nat.reduceEqDiff, Nat.reduceAdd, Nat.reduceMul, Int.reduceToNat, Int.reduceAdd, Int.reduceTDiv, Nat.reduceLeDiff, a0, a3, a4, am]
    exact q

theorem f63_spec {h : Heap} {Q : Value → Heap → Prop} {c : Ck} (hc : c.ok) (q : ∀ h', Ext h h' → Q (.bool true) h') : WC T (.func (.func 63) #[] #[]) [c.val] h Q := by
  refine WC_fn T63 rfl ?_
  have hs := @Ck.same c
  cases c with
  | run k b =>
    obtain ⟨h1, h2⟩ := hc
    unfold Ck.cells at hs
    simp only [Ck.kind, Ck.cls, Ck.lane, Ck.many, Ck.bits, Int.cast_ofNat_Int] at hs
    have h4 : manyOf k ≤ 8 := by unfold manyOf; repeat (first | omega | split)
    simp (disch := first | assumption | omega | (simp only [push_n, set_n]; done) | (simp only [push_n, set_n]; omega) | fail) only [go_sem, ↓reduceIte, Nat.reduceEqDiff, Nat.reduceAdd, Nat.reduceMul, Int.reduceToNat, Int.reduceAdd, Int.reduceTDiv, Nat.reduceLeDiff, ir63, Ck.cells, Ck.kind, Ck.cls, Ck.lane, Ck.many, Ck.bits, hs]
    refine f20_spec h1 ?_
    simp (disch := first | assumption | omega | (simp only [push_n, set_n]; done) | (simp only [push_n, set_n]; omega) | fail) only [go_sem, ↓reduceIte, Nat.reduceEqDiff, Nat.reduceAdd, Nat.reduceMul, Int.reduceToNat, Int.reduceAdd, Int.reduceTDiv, Nat.reduceLeDiff]
    refine f75_spec (by omega) ?_
    have h3 : b.toNat < (bitB (manyOf k)).toNat := by
      have h5 : 2 ^ manyOf k ≤ 2 ^ 8 := Nat.pow_le_pow_right (by decide) h4
      unfold bitB
      rw [BitVec.toNat_shiftLeft, Nat.shiftLeft_eq, show (1#64).toNat = 1 from rfl, Nat.one_mul, Nat.mod_eq_of_lt (by omega)]
      exact h2
    simp (disch := first | assumption | omega | (simp only [push_n, set_n]; done) | (simp only [push_n, set_n]; omega) | fail) only [go_sem, ↓reduceIte, Nat.reduceEqDiff, Nat.reduceAdd, Nat.reduceMul, Int.reduceToNat, Int.reduceAdd, Int.reduceTDiv, Nat.reduceLeDiff]
    exact q _ (by repeat (first | assumption | exact Ext.refl _ | refine Ext.push ?_ | refine Ext.set ?_ (by omega) | refine Ext.trans ?_ (by assumption)))
  | huge n =>
    obtain ⟨h1, h2⟩ := hc
    unfold Ck.cells at hs
    simp only [Ck.kind, Ck.cls, Ck.lane, Ck.many, Ck.bits, Int.cast_ofNat_Int] at hs
    simp (disch := first | assumption | omega | (simp only [push_n, set_n]; done) | (simp only [push_n, set_n]; omega) | fail) only [go_sem, ↓reduceIte, Nat.reduceEqDiff, Nat.reduceAdd, Nat.reduceMul, Int.reduceToNat, Int.reduceAdd, Int.reduceTDiv, Nat.reduceLeDiff, ir63, Ck.cells, Ck.kind, Ck.cls, Ck.lane, Ck.many, Ck.bits, hs]
    exact q _ (by repeat (first | assumption | exact Ext.refl _ | refine Ext.push ?_ | refine Ext.set ?_ (by omega) | refine Ext.trans ?_ (by assumption)))
  | log l n =>
    obtain ⟨h1, h2⟩ := hc
    unfold Ck.cells at hs
    simp only [Ck.kind, Ck.cls, Ck.lane, Ck.many, Ck.bits, Int.cast_ofNat_Int] at hs
    simp (disch := first | assumption | omega | (simp only [push_n, set_n]; done) | (simp only [push_n, set_n]; omega) | fail) only [go_sem, ↓reduceIte, Nat.reduceEqDiff, Nat.reduceAdd, Nat.reduceMul, Int.reduceToNat, Int.reduceAdd, Int.reduceTDiv, Nat.reduceLeDiff, ir63, Ck.cells, Ck.kind, Ck.cls, Ck.lane, Ck.many, Ck.bits, hs]
    exact q _ (by repeat (first | assumption | exact Ext.refl _ | refine Ext.push ?_ | refine Ext.set ?_ (by omega) | refine Ext.trans ?_ (by assumption)))
  | free =>
    unfold Ck.cells at hs
    simp only [Ck.kind, Ck.cls, Ck.lane, Ck.many, Ck.bits, Int.cast_ofNat_Int] at hs
    simp (disch := first | assumption | omega | (simp only [push_n, set_n]; done) | (simp only [push_n, set_n]; omega) | fail) only [go_sem, ↓reduceIte, Nat.reduceEqDiff, Nat.reduceAdd, Nat.reduceMul, Int.reduceToNat, Int.reduceAdd, Int.reduceTDiv, Nat.reduceLeDiff, ir63, Ck.cells, Ck.kind, Ck.cls, Ck.lane, Ck.many, Ck.bits, hs]
    exact q _ (by repeat (first | assumption | exact Ext.refl _ | refine Ext.push ?_ | refine Ext.set ?_ (by omega) | refine Ext.trans ?_ (by assumption)))
  | tail =>
    unfold Ck.cells at hs
    simp only [Ck.kind, Ck.cls, Ck.lane, Ck.many, Ck.bits, Int.cast_ofNat_Int] at hs
    simp (disch := first | assumption | omega | (simp only [push_n, set_n]; done) | (simp only [push_n, set_n]; omega) | fail) only [go_sem, ↓reduceIte, Nat.reduceEqDiff, Nat.reduceAdd, Nat.reduceMul, Int.reduceToNat, Int.reduceAdd, Int.reduceTDiv, Nat.reduceLeDiff, ir63, Ck.cells, Ck.kind, Ck.cls, Ck.lane, Ck.many, Ck.bits, hs]
    exact q _ (by repeat (first | assumption | exact Ext.refl _ | refine Ext.push ?_ | refine Ext.set ?_ (by omega) | refine Ext.trans ?_ (by assumption)))

theorem f41_spec {h : Heap} {Q : Value → Heap → Prop} {c : Ck} (hc : c.ok) (q : ∀ h', Ext h h' → Q (.tuple #[ub c.enc, .int .i64 0]) h') : WC T (.func (.func 41) #[] #[]) [c.val] h Q := by
  refine WC_fn T41 rfl ?_
  simp (disch := first | assumption | omega | (simp only [push_n, set_n]; done) | (simp only [push_n, set_n]; omega) | fail) only [go_sem, ↓reduceIte, Nat.reduceEqDiff, Nat.reduceAdd, Nat.reduceMul, Int.reduceToNat, Int.reduceAdd, Int.reduceTDiv, Nat.reduceLeDiff, ir41]
  refine f63_spec hc fun h1 x1 => ?_
  have n_x1 := Ext.n_le x1; try simp only [push_n, set_n] at n_x1
  have e : BitVec.ofInt 64 (c.kind : Int) + 8#64 * BitVec.ofInt 64 (c.cls : Int) + 32#64 * BitVec.ofInt 64 (c.lane : Int) + 2048#64 * BitVec.ofInt 64 (c.many : Int) + 16777216#64 * c.bits = c.enc := by
    obtain ⟨b1, b2, b3, b4, b5⟩ := Ck.bounds hc
    apply BitVec.eq_of_toNat_eq
    rw [Ck.enc_toNat hc]
    simp only [BitVec.toNat_add, BitVec.toNat_mul]
    rw [ofInt_nat (by omega), ofInt_nat (by omega), ofInt_nat (by omega), ofInt_nat (by omega)]
    unfold Ck.encN
    simp only [BitVec.toNat_ofNat]
    omega
  simp (disch := first | assumption | omega | (simp only [push_n, set_n]; done) | (simp only [push_n, set_n]; omega) | fail) only [go_sem, ↓reduceIte, Nat.reduceEqDiff, Nat.reduceAdd, Nat.reduceMul, Int.reduceToNat, Int.reduceAdd, Int.reduceTDiv, Nat.reduceLeDiff, x1.2, e]
  exact q _ (by repeat (first | assumption | exact Ext.refl _ | refine Ext.push ?_ | refine Ext.set ?_ (by omega) | refine Ext.trans ?_ (by assumption)))

theorem f32_spec {h : Heap} {Q : Value → Heap → Prop} {u v : Value} {xs ys : List (BitVec 64)} (hu : RS h 1 u (xs.map fun x => [ub x])) (hv : RS h 1 v (ys.map fun x => [ub x])) (hn : xs.length ≤ 1000000)
    (q : Q (.bool (decide (xs = ys))) h) : WC T (.func (.func 32) #[] #[]) [u, v] h Q := by
  refine WC_fn T32 rfl ?_
  obtain ⟨al, ac, e1⟩ := hu.lenV
  obtain ⟨bl, bc, e2⟩ := hv.lenV
  subst e1 e2
  by_cases hlen : xs.length = ys.length
  · simp (disch := first | assumption | omega | (simp only [push_n, set_n]; done) | (simp only [push_n, set_n]; omega) | fail) only [go_sem, ↓reduceIte, Nat.reduceEqDiff, Nat.reduceAdd, Nat.reduceMul, Int.reduceToNat, Int.reduceAdd, Int.reduceTDiv, Nat.reduceLeDiff, ir32]
    refine WE_loop (fun t a h' => ∃ k : Nat, t = xs.length - k ∧ k ≤ xs.length ∧ h' = h ∧ a.get 0 = .slice al xs.length ac ∧ a.get 1 = .slice bl ys.length bc ∧ a.get 5 = .int .i64 k ∧ a.marks = [] ∧ xs.take k = ys.take k) ?_ (m := xs.length) ⟨0, by omega, by omega, rfl, by simp (disch := first | assumption | omega | (simp only [push_n, set_n]; done) | (simp only [push_n, set_n]; omega) | fail) only [go_sem, ↓reduceIte, Nat.reduceEqDiff, Nat.reduceAdd, Nat.reduceMul, Int.reduceToNat, Int.reduceAdd, Int.reduceTDiv, Nat.reduceLeDiff], by simp (disch := first | assumption | omega | (simp only [push_n, set_n]; done) | (simp only [push_n, set_n]; omega) | fail) only [go_sem, ↓reduceIte, Nat.reduceEqDiff, Nat.reduceAdd, Nat.reduceMul, Int.reduceToNat, Int.reduceAdd, Int.reduceTDiv, Nat.reduceLeDiff], by simp (disch := first | assumption | omega | (simp only [push_n, set_n]; done) | (simp only [push_n, set_n]; omega) | fail) only [go_sem, ↓reduceIte, Nat.reduceEqDiff, Nat.reduceAdd, Nat.reduceMul, Int.reduceToNat, Int.reduceAdd, Int.reduceTDiv, Nat.reduceLeDiff], rfl, rfl⟩
    rintro t a h1 ⟨k, rfl, hk, rfl, a0, a1, a5, am, htk⟩
    by_cases hlt : k < xs.length
    · obtain ⟨b1, c1, e1, ro1, hv1, hg1, hb1⟩ := hu.atM hlt
      obtain ⟨b2, c2, e2, ro2, hv2, hg2, hb2⟩ := hv.atM (j := k) (by omega)
      injection hv1 with hv1 _ hv1'
      injection hv2 with hv2 _ hv2'
      subst hv1 hv1' hv2 hv2'
      obtain ⟨x, hx⟩ : ∃ x, xs[k]? = some x := ⟨_, List.getElem?_eq_getElem hlt⟩
      obtain ⟨y, hy⟩ : ∃ y, ys[k]? = some y := ⟨_, List.getElem?_eq_getElem (by omega)⟩
      have l1 := getAt_map1 (f := fun x => [ub x]) (fun _ => rfl) hx
      have l2 := getAt_map1 (f := fun x => [ub x]) (fun _ => rfl) hy
      by_cases hxy : x = y
      · subst hxy
        simp (disch := first | assumption | omega | (simp only [push_n, set_n]; done) | (simp only [push_n, set_n]; omega) | fail) only [go_sem, ↓reduceIte, Nat.reduceEqDiff, Nat.reduceAdd, Nat.reduceMul, Int.reduceToNat, Int.reduceAdd, Int.reduceTDiv, Nat.reduceLeDiff, a0, a1, a5, am, hg1, hg2, l1, l2]
        exact ⟨_, Nat.sub_lt_sub_left hlt (Nat.lt_succ_self k), k + 1, rfl, by omega, rfl, by rw [take_succ hx, take_succ hy, htk]⟩
      · have : decide (xs = ys) = false := by
          apply decide_eq_false
          intro e
          rw [e, hy] at hx
          injection hx with hx
          exact hxy hx.symm
        rw [this] at q
        simp (disch := first | assumption | omega | (simp only [push_n, set_n]; done) | (simp only [push_n, set_n]; omega) | fail) only [go_sem, ↓reduceIte, Nat.reduceEqDiff, Nat.reduceAdd, Nat.reduceMul, Int.reduceToNat, Int.reduceAdd, Int.reduceTDiv, Nat.reduceLeDiff, a0, a1, a5, am, hg1, hg2, l1, l2, hxy]
        exact q
    · obtain rfl : k = xs.length := by omega
      rw [List.take_length] at htk
      have : decide (xs = ys) = true := by
        apply decide_eq_true
        rw [htk, hlen, List.take_length]
      rw [this] at q
      simp (disch := first | assumption | omega | (simp only [push_n, set_n]; done) | (simp only [push_n, set_n]; omega) | fail) only [go_sem, ↓reduceIte, Nat.reduceEqDiff, Nat.reduceAdd, Nat.reduceMul, Int.reduceToNat, Int.reduceAdd, Int.reduceTDiv, Nat.reduceLeDiff, a0, a1, a5, am]
      exact q
  · have : decide (xs = ys) = false := by
      apply decide_eq_false
      intro e
      exact hlen (congrArg List.length e)
    rw [this] at q
    simp (disch := first | assumption | omega | (simp only [push_n, set_n]; done) | (simp only [push_n, set_n]; omega) | fail) only [go_sem, ↓reduceIte, Nat.reduceEqDiff, Nat.reduceAdd, Nat.reduceMul, Int.reduceToNat, Int.reduceAdd, Int.reduceTDiv, Nat.reduceLeDiff, ir32]
    exact q
end Go.Am.YtdcppkhobfbpeaaDoor
