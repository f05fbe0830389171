/-
  The blocks of a table.
-/
import Derived.Test.YtdcppkhobfbpeaaDoorD17
set_option linter.unusedVariables false
set_option linter.unusedSimpArgs false
namespace Go.Am.YtdcppkhobfbpeaaDoor
open Go Go.Am Go.Proofs

/-- A block that is live. -/
structure Bl where
  chunk : Nat
  index : Nat
  words : Nat
  deriving DecidableEq
def Bl.cells (b : Bl) : List Value := [.int .i64 b.chunk, .int .i64 b.index, .int .i64 b.words]
abbrev Bl.val (b : Bl) : Value := .agg b.cells.toArray
def blkOf (i : Nat) : Ck → List Bl
  | .huge n => [⟨i, 0, n * 32⟩]
  | .run k b => (bitsL b (manyOf k)).map fun j => ⟨i, j, blockOf k⟩
  | _ => []
def blocksFrom : Nat → List Ck → List Bl
  | _, [] => []
  | i, c :: r => blkOf i c ++ blocksFrom (i + 1) r
def blocksM (cs : List Ck) : List Bl := blocksFrom 0 cs
theorem blocksFrom_app : ∀ (l r : List Ck) (i : Nat), blocksFrom i (l ++ r) = blocksFrom i l ++ blocksFrom (i + l.length) r
  | [], r, i => rfl
  | c :: l, r, i => by
    rw [List.cons_append]
    show blkOf i c ++ blocksFrom (i + 1) (l ++ r) = (blkOf i c ++ blocksFrom (i + 1) l) ++ _
    rw [blocksFrom_app l r (i + 1), List.append_assoc, List.length_cons, show i + 1 + l.length = i + (l.length + 1) by omega]
theorem blocksM_take {cs : List Ck} {i : Nat} {c : Ck} (h : cs[i]? = some c) : blocksM (cs.take (i + 1)) = blocksM (cs.take i) ++ blkOf i c := by
  have hi : i < cs.length := by
    rcases Nat.lt_or_ge i cs.length with h1 | h1
    · exact h1
    · rw [List.getElem?_eq_none h1] at h; cases h
  unfold blocksM
  rw [take_succ h, blocksFrom_app]
  simp [blocksFrom, List.length_take, Nat.min_eq_left (Nat.le_of_lt hi)]
theorem blkOf_length {i : Nat} {c : Ck} (h : c.ok) : (blkOf i c).length ≤ 8 := by
  cases c with
  | run k b =>
    have := @bitsL_length b (manyOf k)
    have := (many_pos k h.1).2
    simp [blkOf]; omega
  | _ => simp [blkOf]
theorem blocksFrom_length : ∀ {cs : List Ck} {i : Nat}, (∀ c ∈ cs, c.ok) → (blocksFrom i cs).length ≤ 8 * cs.length
  | [], i, _ => by simp [blocksFrom]
  | c :: r, i, h => by
    unfold blocksFrom
    have h1 := blkOf_length (i := i) (h c (by simp))
    have h2 := blocksFrom_length (cs := r) (i := i + 1) fun c' hc => h c' (by simp [hc])
    simp; omega
theorem blocksM_split {cs : List Ck} {i : Nat} {c : Ck} (h : cs[i]? = some c) : ∃ r, blocksM cs = blocksM (cs.take i) ++ blkOf i c ++ r := by
  have : cs = cs.take (i + 1) ++ cs.drop (i + 1) := (List.take_append_drop _ _).symm
  refine ⟨blocksFrom (0 + (cs.take (i + 1)).length) (cs.drop (i + 1)), ?_⟩
  rw [← blocksM_take h]
  unfold blocksM
  rw [← blocksFrom_app, ← this]
theorem bitsL_zero {n : Nat} : bitsL 0#64 n = [] := by unfold bitsL; simp

set_option maxHeartbeats 1000000 in
theorem f78_spec {h : Heap} {Q : Value → Heap → Prop} {yv : Value} {bc D : Nat} {cs : List Ck} (hok : ∀ c ∈ cs, c.ok) (hn : cs.length ≤ 1000) (I : List Bl → Nat → Heap → Prop) (o0 : Nat) (h0 : I [] o0 h)
    (hI : ∀ l o h', I l o h' → h.n ≤ h'.n ∧ blocks h' ∧ o < h'.n ∧ (∃ e ro, h'.get bc = .cells [ixv D cs.length] e ro) ∧ (cs ≠ [] → ∃ e ro, h'.get D = .cells (cs.map Ck.cells).flatten e ro))
    (hx : ∀ l o h' h'', I l o h' → Ext h' h'' → I l o h'')
    (step : ∀ l o b h', l.length < (blocksM cs).length → I l o h' → WC T yv [b.val] h' (fun v h'' => v = .bool true ∧ ∃ o', h'.n ≤ o' ∧ I (l ++ [b]) o' h'' ∧ h'.n ≤ h''.n ∧ ∀ i, h.n ≤ i → i < h'.n → i ≠ o → h''.get i = h'.get i))
    (fin : ∀ o h', I (blocksM cs) o h' → Q (.tuple #[]) h') : WC T (.func (.func 78) #[] #[.pointer (some ⟨bc, 0, none⟩)]) [yv] h Q := by
  refine WC_clo (u := []) (v := [_]) T78 rfl ?_
  obtain ⟨_, _, _, ⟨e0, r0, hbc⟩, _⟩ := hI _ _ _ h0
  simp (disch := first | assumption | omega | (simp only [push_n, set_n]; done) | (simp only [push_n, set_n]; omega) | fail) only [go_sem, ↓reduceIte, Nat.reduceEqDiff, Nat.reduceAdd, Nat.reduceMul, Int.reduceToNat, Int.reduceAdd, Int.reduceTDiv, Nat.reduceLeDiff, ir78, hbc]
  refine WE_loop (fun m a h' => ∃ (i o : Nat), m = cs.length - i ∧ i ≤ cs.length ∧ a.get 0 = yv ∧ a.get 7 = ixv D cs.length ∧ a.get 8 = .int .i64 cs.length ∧ a.get 9 = .int .i64 i ∧ a.marks = [] ∧ I (blocksM (cs.take i)) o h') ?_ (m := cs.length) ⟨0, o0, by omega, by omega, by simp (disch := first | assumption | omega | (simp only [push_n, set_n]; done) | (simp only [push_n, set_n]; omega) | fail) only [go_sem, ↓reduceIte, Nat.reduceEqDiff, Nat.reduceAdd, Nat.reduceMul, Int.reduceToNat, Int.reduceAdd, Int.reduceTDiv, Nat.reduceLeDiff], by simp (disch := first | assumption | omega | (simp only [push_n, set_n]; done) | (simp only [push_n, set_n]; omega) | fail) only [go_sem, ↓reduceIte, Nat.reduceEqDiff, Nat.reduceAdd, Nat.reduceMul, Int.reduceToNat, Int.reduceAdd, Int.reduceTDiv, Nat.reduceLeDiff], by simp (disch := first | assumption | omega | (simp only [push_n, set_n]; done) | (simp only [push_n, set_n]; omega) | fail) only [go_sem, ↓reduceIte, Nat.reduceEqDiff, Nat.reduceAdd, Nat.reduceMul, Int.reduceToNat, Int.reduceAdd, Int.reduceTDiv, Nat.reduceLeDiff], by simp (disch := first | assumption | omega | (simp only [push_n, set_n]; done) | (simp only [push_n, set_n]; omega) | fail) only [go_sem, ↓reduceIte, Nat.reduceEqDiff, Nat.reduceAdd, Nat.reduceMul, Int.reduceToNat, Int.reduceAdd, Int.reduceTDiv, Nat.reduceLeDiff], rfl, h0⟩
  rintro m a h1 ⟨i, o, rfl, hil, a0, a7, a8, a9, am, hIi⟩
  by_cases hin : i < cs.length
  · obtain ⟨c, hc⟩ : ∃ c, cs[i]? = some c := ⟨_, List.getElem?_eq_getElem hin⟩
    have hne : cs ≠ [] := by intro e; subst e; simp at hin
    have hcok := hok c (List.mem_of_getElem? hc)
    obtain ⟨n1, b1, o1, _, hD⟩ := hI _ _ _ hIi
    obtain ⟨e1, r1, gD⟩ := hD hne
    have hl := getAt_map (f := Ck.cells) (s := 5) (fun _ => rfl) hc
    have htk := blocksM_take hc
    obtain ⟨rest, hsplit⟩ := blocksM_split hc
    have x2 : Ext h1 (h1.push (.cells c.cells 47 false)) := Ext.push (Ext.refl _)
    have hI2 := hx _ _ _ _ hIi x2
    cases c with
    | huge n =>
      have hb := Ck.bounds hcok
      have hnb : n < 8192 := hb.2.2.2.1
      have hst := step (blocksM (cs.take i)) o ⟨i, 0, n * 32⟩ _ (by rw [hsplit]; simp [blkOf]) hI2
      simp (disch := first | assumption | omega | (simp only [push_n, set_n]; done) | (simp only [push_n, set_n]; omega) | fail) only [go_sem, ↓reduceIte, Nat.reduceEqDiff, Nat.reduceAdd, Nat.reduceMul, Int.reduceToNat, Int.reduceAdd, Int.reduceTDiv, Nat.reduceLeDiff, a0, a7, a8, a9, am, gD, hl, Ck.kind, Ck.many]
      refine WC.mono ?_ hst
      rintro v h3 ⟨rfl, o', ho', hI3, n3, g3⟩
      simp only [push_n] at ho' n3 g3
      obtain ⟨_, b3, o3, _, _⟩ := hI _ _ _ hI3
      have gc := (g3 h1.n n1 (by omega) (by omega)).trans (get_push_eq rfl)
      simp (disch := first | assumption | omega | (simp only [push_n, set_n]; done) | (simp only [push_n, set_n]; omega) | fail) only [go_sem, ↓reduceIte, Nat.reduceEqDiff, Nat.reduceAdd, Nat.reduceMul, Int.reduceToNat, Int.reduceAdd, Int.reduceTDiv, Nat.reduceLeDiff, a0, a7, a8, a9, am, gc, gD, hl, Ck.kind, Ck.bits, Ck.cls]
      refine f66_spec (k := 0) b3 ?_
      simp (disch := first | assumption | omega | (simp only [push_n, set_n]; done) | (simp only [push_n, set_n]; omega) | fail) only [go_sem, ↓reduceIte, Nat.reduceEqDiff, Nat.reduceAdd, Nat.reduceMul, Int.reduceToNat, Int.reduceAdd, Int.reduceTDiv, Nat.reduceLeDiff, a0, a7, a8, a9, am]
      refine f79_spec (w := 0#64) (many := 8) (by decide) fun v4 h4 x4 o4 => ?_
      rw [bitsL_zero] at o4
      have l4 := o4.rs.len (h' := h4)
      simp only [List.map_nil, List.length_nil] at l4
      simp (disch := first | assumption | omega | (simp only [push_n, set_n]; done) | (simp only [push_n, set_n]; omega) | fail) only [go_sem, ↓reduceIte, Nat.reduceEqDiff, Nat.reduceAdd, Nat.reduceMul, Int.reduceToNat, Int.reduceAdd, Int.reduceTDiv, Nat.reduceLeDiff, a0, a7, a8, a9, am, l4]
      refine WE_unroll ?_
      simp (disch := first | assumption | omega | (simp only [push_n, set_n]; done) | (simp only [push_n, set_n]; omega) | fail) only [go_sem, ↓reduceIte, Nat.reduceEqDiff, Nat.reduceAdd, Nat.reduceMul, Int.reduceToNat, Int.reduceAdd, Int.reduceTDiv, Nat.reduceLeDiff, a0, a7, a8, a9, am, l4]
      exact ⟨_, Nat.sub_lt_sub_left hin (Nat.lt_succ_self i), i + 1, o', rfl, by omega, rfl, by rw [htk]; exact hx _ _ _ _ hI3 x4⟩
    | run k b =>
      have hk3 : k < 3 := hcok.1
      have hm8 := many_pos k hk3
      simp (disch := first | assumption | omega | (simp only [push_n, set_n]; done) | (simp only [push_n, set_n]; omega) | fail) only [go_sem, ↓reduceIte, Nat.reduceEqDiff, Nat.reduceAdd, Nat.reduceMul, Int.reduceToNat, Int.reduceAdd, Int.reduceTDiv, Nat.reduceLeDiff, a0, a7, a8, a9, am, gD, hl, Ck.kind, Ck.bits, Ck.cls]
      refine f66_spec (k := k) (b1.ext x2) ?_
      simp (disch := first | assumption | omega | (simp only [push_n, set_n]; done) | (simp only [push_n, set_n]; omega) | fail) only [go_sem, ↓reduceIte, Nat.reduceEqDiff, Nat.reduceAdd, Nat.reduceMul, Int.reduceToNat, Int.reduceAdd, Int.reduceTDiv, Nat.reduceLeDiff, a0, a7, a8, a9, am]
      refine f79_spec (w := b) (many := manyOf k) (by omega) fun v4 h4 x4 o4 => ?_
      have n_x4 := Ext.n_le x4; try simp only [push_n, set_n] at n_x4
      have w4 := o4.ixv
      have g4 := o4.cells
      have p4 := o4.vb_le
      rw [List.length_map] at w4
      generalize vb v4 = D4 at *
      subst w4
      simp only [push_n] at p4
      have hI4 := hx _ _ _ _ hI2 x4
      have gc4 := (x4.2 h1.n (by (first | omega | (simp only [push_n, set_n]; done) | (simp only [push_n, set_n]; omega)))).trans (get_push_eq rfl)
      have hbl : (bitsL b (manyOf k)).length ≤ 8 := by have := @bitsL_length b (manyOf k); omega
      have hbm : ∀ x ∈ bitsL b (manyOf k), x < 8 := fun x hx => by
        have := List.mem_range.1 (List.mem_filter.1 hx).1
        omega
      rw [show blkOf i (.run k b) = (bitsL b (manyOf k)).map fun j => ⟨i, j, blockOf k⟩ from rfl] at htk hsplit
      generalize bitsL b (manyOf k) = bl at *
      simp (disch := first | assumption | omega | (simp only [push_n, set_n]; done) | (simp only [push_n, set_n]; omega) | fail) only [go_sem, ↓reduceIte, Nat.reduceEqDiff, Nat.reduceAdd, Nat.reduceMul, Int.reduceToNat, Int.reduceAdd, Int.reduceTDiv, Nat.reduceLeDiff, a0, a7, a8, a9, am]
      refine WE_loop (fun m a' h' => ∃ (j o' : Nat), m = bl.length - j ∧ j ≤ bl.length ∧ a'.get 0 = yv ∧ a'.get 3 = .int .i64 i ∧ a'.get 4 = .pointer (some ⟨h1.n, 0, none⟩) ∧ a'.get 7 = ixv D cs.length ∧ a'.get 8 = .int .i64 cs.length ∧ a'.get 9 = .int .i64 i ∧
        a'.get 32 = ixv D4 bl.length ∧ a'.get 33 = .int .i64 bl.length ∧ a'.get 34 = .int .i64 j ∧ a'.marks = [] ∧ I (blocksM (cs.take i) ++ (bl.take j).map fun j => ⟨i, j, blockOf k⟩) o' h' ∧ h4.n ≤ h'.n ∧
        h'.get h1.n = .cells (Ck.run k b).cells 47 false ∧ (bl ≠ [] → h'.get D4 = .cells (bl.map iv).flatten 3 false) ∧ o' ≠ h1.n ∧ (bl ≠ [] → o' ≠ D4)) ?_ (m := bl.length)
        ⟨0, o, by omega, by omega, by simp (disch := first | assumption | omega | (simp only [push_n, set_n]; done) | (simp only [push_n, set_n]; omega) | fail) only [go_sem, ↓reduceIte, Nat.reduceEqDiff, Nat.reduceAdd, Nat.reduceMul, Int.reduceToNat, Int.reduceAdd, Int.reduceTDiv, Nat.reduceLeDiff, a0], by simp (disch := first | assumption | omega | (simp only [push_n, set_n]; done) | (simp only [push_n, set_n]; omega) | fail) only [go_sem, ↓reduceIte, Nat.reduceEqDiff, Nat.reduceAdd, Nat.reduceMul, Int.reduceToNat, Int.reduceAdd, Int.reduceTDiv, Nat.reduceLeDiff], by simp (disch := first | assumption | omega | (simp only [push_n, set_n]; done) | (simp only [push_n, set_n]; omega) | fail) only [go_sem, ↓reduceIte, Nat.reduceEqDiff, Nat.reduceAdd, Nat.reduceMul, Int.reduceToNat, Int.reduceAdd, Int.reduceTDiv, Nat.reduceLeDiff], by simp (disch := first | assumption | omega | (simp only [push_n, set_n]; done) | (simp only [push_n, set_n]; omega) | fail) only [go_sem, ↓reduceIte, Nat.reduceEqDiff, Nat.reduceAdd, Nat.reduceMul, Int.reduceToNat, Int.reduceAdd, Int.reduceTDiv, Nat.reduceLeDiff, a7], by simp (disch := first | assumption | omega | (simp only [push_n, set_n]; done) | (simp only [push_n, set_n]; omega) | fail) only [go_sem, ↓reduceIte, Nat.reduceEqDiff, Nat.reduceAdd, Nat.reduceMul, Int.reduceToNat, Int.reduceAdd, Int.reduceTDiv, Nat.reduceLeDiff, a8], by simp (disch := first | assumption | omega | (simp only [push_n, set_n]; done) | (simp only [push_n, set_n]; omega) | fail) only [go_sem, ↓reduceIte, Nat.reduceEqDiff, Nat.reduceAdd, Nat.reduceMul, Int.reduceToNat, Int.reduceAdd, Int.reduceTDiv, Nat.reduceLeDiff, a9], by simp (disch := first | assumption | omega | (simp only [push_n, set_n]; done) | (simp only [push_n, set_n]; omega) | fail) only [go_sem, ↓reduceIte, Nat.reduceEqDiff, Nat.reduceAdd, Nat.reduceMul, Int.reduceToNat, Int.reduceAdd, Int.reduceTDiv, Nat.reduceLeDiff], by simp (disch := first | assumption | omega | (simp only [push_n, set_n]; done) | (simp only [push_n, set_n]; omega) | fail) only [go_sem, ↓reduceIte, Nat.reduceEqDiff, Nat.reduceAdd, Nat.reduceMul, Int.reduceToNat, Int.reduceAdd, Int.reduceTDiv, Nat.reduceLeDiff], by simp (disch := first | assumption | omega | (simp only [push_n, set_n]; done) | (simp only [push_n, set_n]; omega) | fail) only [go_sem, ↓reduceIte, Nat.reduceEqDiff, Nat.reduceAdd, Nat.reduceMul, Int.reduceToNat, Int.reduceAdd, Int.reduceTDiv, Nat.reduceLeDiff], rfl, by simpa using hI4, Nat.le_refl _, gc4, fun hb => g4 (by simpa using hb), by omega, fun hb => by have := p4 (by simpa using hb); omega⟩
      rintro m a2 h5 ⟨j, o5, rfl, hjl, c0, c3, c4, c7, c8, c9, c32, c33, c34, cm, hI5, n5, gc5, gD5, oc, oD⟩
      obtain ⟨_, b5, o5n, _, _⟩ := hI _ _ _ hI5
      by_cases hjn : j < bl.length
      · obtain ⟨x, hx0⟩ : ∃ x, bl[j]? = some x := ⟨_, List.getElem?_eq_getElem hjn⟩
        have hbne : bl ≠ [] := by intro e; subst e; simp at hjn
        have hx8 := hbm x (List.mem_of_getElem? hx0)
        have gl5 := gD5 hbne
        have hl5 := getAt_map1 (f := iv) (fun _ => rfl) hx0
        have hst := step _ o5 ⟨i, x, blockOf k⟩ h5 (by rw [hsplit]; simp; omega) hI5
        have hp4 := p4 (by simpa using hbne)
        simp (disch := first | assumption | omega | (simp only [push_n, set_n]; done) | (simp only [push_n, set_n]; omega) | fail) only [go_sem, ↓reduceIte, Nat.reduceEqDiff, Nat.reduceAdd, Nat.reduceMul, Int.reduceToNat, Int.reduceAdd, Int.reduceTDiv, Nat.reduceLeDiff, c0, c3, c4, c7, c8, c9, c32, c33, c34, cm, gl5, hl5, iv, gc5]
        refine f80_spec (k := k) b5 ?_
        simp (disch := first | assumption | omega | (simp only [push_n, set_n]; done) | (simp only [push_n, set_n]; omega) | fail) only [go_sem, ↓reduceIte, Nat.reduceEqDiff, Nat.reduceAdd, Nat.reduceMul, Int.reduceToNat, Int.reduceAdd, Int.reduceTDiv, Nat.reduceLeDiff, c0, c3, c4, c7, c8, c9, c32, c33, c34, cm]
        refine WC.mono ?_ hst
        rintro v6 h6 ⟨rfl, o6, ho6, hI6, n6, g6⟩
        simp (disch := first | assumption | omega | (simp only [push_n, set_n]; done) | (simp only [push_n, set_n]; omega) | fail) only [go_sem, ↓reduceIte, Nat.reduceEqDiff, Nat.reduceAdd, Nat.reduceMul, Int.reduceToNat, Int.reduceAdd, Int.reduceTDiv, Nat.reduceLeDiff, c0, c3, c4, c7, c8, c9, c32, c33, c34, cm]
        refine ⟨_, Nat.sub_lt_sub_left hjn (Nat.lt_succ_self j), j + 1, o6, rfl, by omega, rfl, ?_, by omega, ?_, fun _ => ?_, by omega, fun _ => by omega⟩
        · rw [take_succ hx0, List.map_append, ← List.append_assoc]; exact hI6
        · rw [g6 h1.n n1 (by omega) (by omega)]; exact gc5
        · rw [g6 D4 (by omega) (by omega) (Ne.symm (oD hbne))]; exact gl5
      · obtain rfl : j = bl.length := by omega
        simp (disch := first | assumption | omega | (simp only [push_n, set_n]; done) | (simp only [push_n, set_n]; omega) | fail) only [go_sem, ↓reduceIte, Nat.reduceEqDiff, Nat.reduceAdd, Nat.reduceMul, Int.reduceToNat, Int.reduceAdd, Int.reduceTDiv, Nat.reduceLeDiff, c0, c3, c4, c7, c8, c9, c32, c33, c34, cm]
        rw [List.take_length] at hI5
        exact ⟨_, Nat.sub_lt_sub_left hin (Nat.lt_succ_self i), i + 1, o5, rfl, by omega, rfl, by rw [htk]; exact hI5⟩
    | free =>
      simp (disch := first | assumption | omega | (simp only [push_n, set_n]; done) | (simp only [push_n, set_n]; omega) | fail) only [go_sem, ↓reduceIte, Nat.reduceEqDiff, Nat.reduceAdd, Nat.reduceMul, Int.reduceToNat, Int.reduceAdd, Int.reduceTDiv, Nat.reduceLeDiff, a0, a7, a8, a9, am, hin, gD, hl, Ck.kind, Ck.bits, Ck.cls]
      refine f66_spec (k := 0) (b1.ext x2) ?_
      simp (disch := first | assumption | omega | (simp only [push_n, set_n]; done) | (simp only [push_n, set_n]; omega) | fail) only [go_sem, ↓reduceIte, Nat.reduceEqDiff, Nat.reduceAdd, Nat.reduceMul, Int.reduceToNat, Int.reduceAdd, Int.reduceTDiv, Nat.reduceLeDiff, a0, a7, a8, a9, am]
      refine f79_spec (w := 0#64) (many := 8) (by decide) fun v4 h4 x4 o4 => ?_
      rw [bitsL_zero] at o4
      have l4 := o4.rs.len (h' := h4)
      simp only [List.map_nil, List.length_nil] at l4
      simp (disch := first | assumption | omega | (simp only [push_n, set_n]; done) | (simp only [push_n, set_n]; omega) | fail) only [go_sem, ↓reduceIte, Nat.reduceEqDiff, Nat.reduceAdd, Nat.reduceMul, Int.reduceToNat, Int.reduceAdd, Int.reduceTDiv, Nat.reduceLeDiff, a0, a7, a8, a9, am, l4]
      refine WE_unroll ?_
      simp (disch := first | assumption | omega | (simp only [push_n, set_n]; done) | (simp only [push_n, set_n]; omega) | fail) only [go_sem, ↓reduceIte, Nat.reduceEqDiff, Nat.reduceAdd, Nat.reduceMul, Int.reduceToNat, Int.reduceAdd, Int.reduceTDiv, Nat.reduceLeDiff, a0, a7, a8, a9, am, l4]
      exact ⟨_, Nat.sub_lt_sub_left hin (Nat.lt_succ_self i), i + 1, o, rfl, by omega, rfl, by rw [htk]; simp only [blkOf, List.append_nil]; exact hx _ _ _ _ hI2 x4⟩
    | tail =>
      simp (disch := first | assumption | omega | (simp only [push_n, set_n]; done) | (simp only [push_n, set_n]; omega) | fail) only [go_sem, ↓reduceIte, Nat.reduceEqDiff, Nat.reduceAdd, Nat.reduceMul, Int.reduceToNat, Int.reduceAdd, Int.reduceTDiv, Nat.reduceLeDiff, a0, a7, a8, a9, am, hin, gD, hl, Ck.kind, Ck.bits, Ck.cls]
      refine f66_spec (k := 0) (b1.ext x2) ?_
      simp (disch := first | assumption | omega | (simp only [push_n, set_n]; done) | (simp only [push_n, set_n]; omega) | fail) only [go_sem, ↓reduceIte, Nat.reduceEqDiff, Nat.reduceAdd, Nat.reduceMul, Int.reduceToNat, Int.reduceAdd, Int.reduceTDiv, Nat.reduceLeDiff, a0, a7, a8, a9, am]
      refine f79_spec (w := 0#64) (many := 8) (by decide) fun v4 h4 x4 o4 => ?_
      rw [bitsL_zero] at o4
      have l4 := o4.rs.len (h' := h4)
      simp only [List.map_nil, List.length_nil] at l4
      simp (disch := first | assumption | omega | (simp only [push_n, set_n]; done) | (simp only [push_n, set_n]; omega) | fail) only [go_sem, ↓reduceIte, Nat.reduceEqDiff, Nat.reduceAdd, Nat.reduceMul, Int.reduceToNat, Int.reduceAdd, Int.reduceTDiv, Nat.reduceLeDiff, a0, a7, a8, a9, am, l4]
      refine WE_unroll ?_
      simp (disch := first | assumption | omega | (simp only [push_n, set_n]; done) | (simp only [push_n, set_n]; omega) | fail) only [go_sem, ↓reduceIte, Nat.reduceEqDiff, Nat.reduceAdd, Nat.reduceMul, Int.reduceToNat, Int.reduceAdd, Int.reduceTDiv, Nat.reduceLeDiff, a0, a7, a8, a9, am, l4]
      exact ⟨_, Nat.sub_lt_sub_left hin (Nat.lt_succ_self i), i + 1, o, rfl, by omega, rfl, by rw [htk]; simp only [blkOf, List.append_nil]; exact hx _ _ _ _ hI2 x4⟩
    | log l n =>
      simp (disch := first | assumption | omega | (simp only [push_n, set_n]; done) | (simp only [push_n, set_n]; omega) | fail) only [go_sem, ↓reduceIte, Nat.reduceEqDiff, Nat.reduceAdd, Nat.reduceMul, Int.reduceToNat, Int.reduceAdd, Int.reduceTDiv, Nat.reduceLeDiff, a0, a7, a8, a9, am, hin, gD, hl, Ck.kind, Ck.bits, Ck.cls]
      refine f66_spec (k := 0) (b1.ext x2) ?_
      simp (disch := first | assumption | omega | (simp only [push_n, set_n]; done) | (simp only [push_n, set_n]; omega) | fail) only [go_sem, ↓reduceIte, Nat.reduceEqDiff, Nat.reduceAdd, Nat.reduceMul, Int.reduceToNat, Int.reduceAdd, Int.reduceTDiv, Nat.reduceLeDiff, a0, a7, a8, a9, am]
      refine f79_spec (w := 0#64) (many := 8) (by decide) fun v4 h4 x4 o4 => ?_
      rw [bitsL_zero] at o4
      have l4 := o4.rs.len (h' := h4)
      simp only [List.map_nil, List.length_nil] at l4
      simp (disch := first | assumption | omega | (simp only [push_n, set_n]; done) | (simp only [push_n, set_n]; omega) | fail) only [go_sem, ↓reduceIte, Nat.reduceEqDiff, Nat.reduceAdd, Nat.reduceMul, Int.reduceToNat, Int.reduceAdd, Int.reduceTDiv, Nat.reduceLeDiff, a0, a7, a8, a9, am, l4]
      refine WE_unroll ?_
      simp (disch := first | assumption | omega | (simp only [push_n, set_n]; done) | (simp only [push_n, set_n]; omega) | fail) only [go_sem, ↓reduceIte, Nat.reduceEqDiff, Nat.reduceAdd, Nat.reduceMul, Int.reduceToNat, Int.reduceAdd, Int.reduceTDiv, Nat.reduceLeDiff, a0, a7, a8, a9, am, l4]
      exact ⟨_, Nat.sub_lt_sub_left hin (Nat.lt_succ_self i), i + 1, o, rfl, by omega, rfl, by rw [htk]; simp only [blkOf, List.append_nil]; exact hx _ _ _ _ hI2 x4⟩
  · obtain rfl : i = cs.length := by omega
    simp (disch := first | assumption | omega | (simp only [push_n, set_n]; done) | (simp only [push_n, set_n]; omega) | fail) only [go_sem, ↓reduceIte, Nat.reduceEqDiff, Nat.reduceAdd, Nat.reduceMul, Int.reduceToNat, Int.reduceAdd, Int.reduceTDiv, Nat.reduceLeDiff, a0, a7, a8, a9, am]
    rw [List.take_length] at hIi
    exact fin _ _ hIi

set_option maxHeartbeats 1000000 in
theorem f37_spec {h : Heap} {Q : Value → Heap → Prop} {tv : Value} {cs : List Ck} (hb : blocks h) (hr : RS h 1 tv (cs.map Ck.word)) (hok : ∀ c ∈ cs, c.ok) (hn : cs.length ≤ 1000)
    (q : ∀ v h', Ext h h' → OS h' 69 3 h.n v ((blocksM cs).map Bl.cells) → Q v h') : WC T (.func (.func 37) #[] #[]) [tv] h Q := by
  refine WC_fn T37 rfl ?_
  simp (disch := first | assumption | omega | (simp only [push_n, set_n]; done) | (simp only [push_n, set_n]; omega) | fail) only [go_sem, ↓reduceIte, Nat.reduceEqDiff, Nat.reduceAdd, Nat.reduceMul, Int.reduceToNat, Int.reduceAdd, Int.reduceTDiv, Nat.reduceLeDiff, ir37]
  refine WC_fn T62 rfl ?_
  simp (disch := first | assumption | omega | (simp only [push_n, set_n]; done) | (simp only [push_n, set_n]; omega) | fail) only [go_sem, ↓reduceIte, Nat.reduceEqDiff, Nat.reduceAdd, Nat.reduceMul, Int.reduceToNat, Int.reduceAdd, Int.reduceTDiv, Nat.reduceLeDiff, ir62]
  refine f17_spec (hb.ext (by repeat (first | assumption | exact Ext.refl _ | refine Ext.push ?_ | refine Ext.set ?_ (by omega) | refine Ext.trans ?_ (by assumption)))) (hr.mono (by repeat (first | assumption | exact Ext.refl _ | refine Ext.push ?_ | refine Ext.set ?_ (by omega) | refine Ext.trans ?_ (by assumption)))) hok hn fun v1 h1 x1 o1 => ?_
  have n_x1 := Ext.n_le x1; try simp only [push_n, set_n] at n_x1
  have hbn := hb.1
  have hv := o1.ixv
  rw [List.length_map] at hv
  have hcells := o1.cells
  have hvb := o1.vb_le
  generalize vb v1 = D at *
  subst hv
  simp only [push_n] at hvb
  simp (disch := first | assumption | omega | (simp only [push_n, set_n]; done) | (simp only [push_n, set_n]; omega) | fail) only [go_sem, ↓reduceIte, Nat.reduceEqDiff, Nat.reduceAdd, Nat.reduceMul, Int.reduceToNat, Int.reduceAdd, Int.reduceTDiv, Nat.reduceLeDiff]
  generalize hA : put _ 6 _ = A
  have A3 : A 3 = .pointer (some ⟨h.n, 0, none⟩) := by rw [← hA]; simp (disch := first | assumption | omega | (simp only [push_n, set_n]; done) | (simp only [push_n, set_n]; omega) | fail) only [go_sem, ↓reduceIte, Nat.reduceEqDiff, Nat.reduceAdd, Nat.reduceMul, Int.reduceToNat, Int.reduceAdd, Int.reduceTDiv, Nat.reduceLeDiff]
  have A6 : A 6 = .func (.func 78) #[] #[.pointer (some ⟨h1.n, 0, none⟩)] := by rw [← hA]; simp (disch := first | assumption | omega | (simp only [push_n, set_n]; done) | (simp only [push_n, set_n]; omega) | fail) only [go_sem, ↓reduceIte, Nat.reduceEqDiff, Nat.reduceAdd, Nat.reduceMul, Int.reduceToNat, Int.reduceAdd, Int.reduceTDiv, Nat.reduceLeDiff]
  clear hA
  refine WE_rng A6 ?_
  simp (disch := first | assumption | omega | (simp only [push_n, set_n]; done) | (simp only [push_n, set_n]; omega) | fail) only [go_sem, ↓reduceIte, Nat.reduceEqDiff, Nat.reduceAdd, Nat.reduceMul, Int.reduceToNat, Int.reduceAdd, Int.reduceTDiv, Nat.reduceLeDiff]
  have gD1 : cs ≠ [] → h1.get D = .cells (cs.map Ck.cells).flatten 47 false := fun hne => hcells (by simpa using hne)
  have lD1 : cs ≠ [] → h.n + 1 ≤ D ∧ D < h1.n := fun hne => hvb (by simpa using hne)
  have gO : h1.get h.n = .cells [.slice none 0 0] 63 false := by simp (disch := first | assumption | omega | (simp only [push_n, set_n]; done) | (simp only [push_n, set_n]; omega) | fail) only [go_sem, ↓reduceIte, Nat.reduceEqDiff, Nat.reduceAdd, Nat.reduceMul, Int.reduceToNat, Int.reduceAdd, Int.reduceTDiv, Nat.reduceLeDiff, x1.2]
  have glow : ∀ i, i < h.n → h1.get i = h.get i := fun i hi => by simp (disch := first | assumption | omega | (simp only [push_n, set_n]; done) | (simp only [push_n, set_n]; omega) | fail) only [go_sem, ↓reduceIte, Nat.reduceEqDiff, Nat.reduceAdd, Nat.reduceMul, Int.reduceToNat, Int.reduceAdd, Int.reduceTDiv, Nat.reduceLeDiff, x1.2]
  have hbl : (blocksM cs).length ≤ 8 * cs.length := blocksFrom_length (i := 0) hok
  -- h1: out's cell at h.n; h1.n: each's list; h1.n + 1: the mark; h1.n + 2: the loop
  refine f78_spec (D := D) hok hn (fun l o h' => h1.n + 3 ≤ h'.n ∧ (∀ i, i < h1.n → i ≠ h.n → h'.get i = h1.get i) ∧ h'.get h1.n = .cells [ixv D cs.length] 39 false ∧ h'.get (h1.n + 1) = .defer ∧ h'.get (h1.n + 1 + 1) = _ ∧ ∃ v, h'.get h.n = .cells [v] 63 false ∧ OS h' 69 3 (h1.n + 3) v (l.map Bl.cells) ∧ o = vb v ∧ l.length ≤ 8000) 0 ⟨?_, ?_, ?_, ?_, get_push_eq (by simp (disch := first | assumption | omega | (simp only [push_n, set_n]; done) | (simp only [push_n, set_n]; omega) | fail) only [go_sem, ↓reduceIte, Nat.reduceEqDiff, Nat.reduceAdd, Nat.reduceMul, Int.reduceToNat, Int.reduceAdd, Int.reduceTDiv, Nat.reduceLeDiff]), ?_⟩ ?_ ?_ ?_ ?_
  · (first | omega | (simp only [push_n, set_n]; done) | (simp only [push_n, set_n]; omega))
  · intro i hi hne
    simp (disch := first | assumption | omega | (simp only [push_n, set_n]; done) | (simp only [push_n, set_n]; omega) | fail) only [go_sem, ↓reduceIte, Nat.reduceEqDiff, Nat.reduceAdd, Nat.reduceMul, Int.reduceToNat, Int.reduceAdd, Int.reduceTDiv, Nat.reduceLeDiff]
  · simp (disch := first | assumption | omega | (simp only [push_n, set_n]; done) | (simp only [push_n, set_n]; omega) | fail) only [go_sem, ↓reduceIte, Nat.reduceEqDiff, Nat.reduceAdd, Nat.reduceMul, Int.reduceToNat, Int.reduceAdd, Int.reduceTDiv, Nat.reduceLeDiff]
  · simp (disch := first | assumption | omega | (simp only [push_n, set_n]; done) | (simp only [push_n, set_n]; omega) | fail) only [go_sem, ↓reduceIte, Nat.reduceEqDiff, Nat.reduceAdd, Nat.reduceMul, Int.reduceToNat, Int.reduceAdd, Int.reduceTDiv, Nat.reduceLeDiff]
  · refine ⟨.slice none 0 0, ?_, OS.nil, rfl, by simp⟩
    simp (disch := first | assumption | omega | (simp only [push_n, set_n]; done) | (simp only [push_n, set_n]; omega) | fail) only [go_sem, ↓reduceIte, Nat.reduceEqDiff, Nat.reduceAdd, Nat.reduceMul, Int.reduceToNat, Int.reduceAdd, Int.reduceTDiv, Nat.reduceLeDiff, gO]
  · rintro l o h' ⟨n1, g1, g2, g3, g4, v, g5, o5, rfl, hll⟩
    refine ⟨by (first | omega | (simp only [push_n, set_n]; done) | (simp only [push_n, set_n]; omega)), ⟨by omega, ?_⟩, ?_, ⟨_, _, g2⟩, fun hne => ⟨_, _, (g1 D (lD1 hne).2 (by have := lD1 hne; omega)).trans (gD1 hne)⟩⟩
    · rw [g1 0 (by omega) (by omega), glow 0 (by omega)]; exact hb.2
    · by_cases hne : l.map Bl.cells = []
      · have := o5.is
        rcases this with ⟨e, _⟩ | ⟨_, _, _, _, _, e⟩
        · rw [e]; show 0 < h'.n; omega
        · exact (e hne).elim
      · exact (o5.vb_le hne).2
  · rintro l o h' h'' ⟨n1, g1, g2, g3, g4, v, g5, o5, rfl, hll⟩ hx
    have := hx.1
    exact ⟨by omega, fun i hi hne => (hx.2 i (by omega)).trans (g1 i hi hne), (hx.2 _ (by omega)).trans g2, (hx.2 _ (by omega)).trans g3, (hx.2 _ (by omega)).trans g4, v, (hx.2 _ (by omega)).trans g5, o5.ext hx, rfl, hll⟩
  · rintro l o b h' hl ⟨n1, g1, g2, g3, g4, v, g5, o5, rfl, hll⟩
    have gb : getAt b.cells 0 3 = some b.cells := rfl
    have hfar : ∀ i, i < h1.n + 3 → l.map Bl.cells ≠ [] → i ≠ vb v := fun i hi hne => by
      have := o5.vb_le hne; omega
    refine WC_rnd g4 (by simp (disch := first | assumption | omega | (simp only [push_n, set_n]; done) | (simp only [push_n, set_n]; omega) | fail) only [go_sem, ↓reduceIte, Nat.reduceEqDiff, Nat.reduceAdd, Nat.reduceMul, Int.reduceToNat, Int.reduceAdd, Int.reduceTDiv, Nat.reduceLeDiff]; rfl) ?_
    simp (disch := first | assumption | omega | (simp only [push_n, set_n]; done) | (simp only [push_n, set_n]; omega) | fail) only [go_sem, ↓reduceIte, Nat.reduceEqDiff, Nat.reduceAdd, Nat.reduceMul, Int.reduceToNat, Int.reduceAdd, Int.reduceTDiv, Nat.reduceLeDiff, A3, g4, g5, Bl.cells]
    generalize hH : Heap.push (Heap.push (Heap.set h' _ _) _) _ = H2
    have nH : H2.n = h'.n + 2 := by rw [← hH]; simp (disch := first | assumption | omega | (simp only [push_n, set_n]; done) | (simp only [push_n, set_n]; omega) | fail) only [go_sem, ↓reduceIte, Nat.reduceEqDiff, Nat.reduceAdd, Nat.reduceMul, Int.reduceToNat, Int.reduceAdd, Int.reduceTDiv, Nat.reduceLeDiff]
    have Gl := congrArg (fun H : Heap => H.get (h1.n + 1 + 1)) hH.symm
    simp (disch := first | assumption | omega | (simp only [push_n, set_n]; done) | (simp only [push_n, set_n]; omega) | fail) only [go_sem, ↓reduceIte, Nat.reduceEqDiff, Nat.reduceAdd, Nat.reduceMul, Int.reduceToNat, Int.reduceAdd, Int.reduceTDiv, Nat.reduceLeDiff] at Gl
    have GH : ∀ i, i < h'.n → i ≠ h1.n + 1 + 1 → H2.get i = h'.get i := fun i hi hne => by rw [← hH]; simp (disch := first | assumption | omega | (simp only [push_n, set_n]; done) | (simp only [push_n, set_n]; omega) | fail) only [go_sem, ↓reduceIte, Nat.reduceEqDiff, Nat.reduceAdd, Nat.reduceMul, Int.reduceToNat, Int.reduceAdd, Int.reduceTDiv, Nat.reduceLeDiff]
    have GB : H2.get (h'.n + 1) = .cells b.cells 69 false := by rw [← hH]; simp (disch := first | assumption | omega | (simp only [push_n, set_n]; done) | (simp only [push_n, set_n]; omega) | fail) only [go_sem, ↓reduceIte, Nat.reduceEqDiff, Nat.reduceAdd, Nat.reduceMul, Int.reduceToNat, Int.reduceAdd, Int.reduceTDiv, Nat.reduceLeDiff]; rfl
    clear hH
    obtain ⟨v', h2, e1, o3, n2, g6, b2⟩ := (o5.mono (h' := H2) (by omega) (fun i hi hi2 => GH i hi2 (by omega))).app (bytes := 24) (B := h'.n + 1) GB rfl (by omega) (by decide) (by simp; omega)
    have G : ∀ i, i < h1.n + 3 → h2.get i = H2.get i := fun i hi => g6 i (by omega) (hfar i hi)
    rw [← G _ (by omega)] at Gl
    have Gb := (G h.n (by omega)).trans ((GH _ (by omega) (by omega)).trans g5)
    have Gd := (G (h1.n + 1) (by omega)).trans ((GH _ (by omega) (by omega)).trans g3)
    have Gc := (G h1.n (by omega)).trans ((GH _ (by omega) (by omega)).trans g2)
    simp (disch := first | assumption | omega | (simp only [push_n, set_n]; done) | (simp only [push_n, set_n]; omega) | fail) only [go_sem, ↓reduceIte, Nat.reduceEqDiff, Nat.reduceAdd, Nat.reduceMul, Int.reduceToNat, Int.reduceAdd, Int.reduceTDiv, Nat.reduceLeDiff, A3, e1, o3.vc, Gb, Gl]
    refine ⟨vb v', by omega, ⟨by omega, ?_, Gc, Gd, v', rfl, ?_, rfl, by simp; omega⟩, by omega, ?_⟩
    · intro i hi hne
      have := (G i (by omega)).trans ((GH i (by omega) (by omega)).trans (g1 i hi hne))
      simp (disch := first | assumption | omega | (simp only [push_n, set_n]; done) | (simp only [push_n, set_n]; omega) | fail) only [go_sem, ↓reduceIte, Nat.reduceEqDiff, Nat.reduceAdd, Nat.reduceMul, Int.reduceToNat, Int.reduceAdd, Int.reduceTDiv, Nat.reduceLeDiff, this]
    · rw [List.map_append]
      exact o3.mono (by (first | omega | (simp only [push_n, set_n]; done) | (simp only [push_n, set_n]; omega))) (fun i hi hi2 => by simp (disch := first | assumption | omega | (simp only [push_n, set_n]; done) | (simp only [push_n, set_n]; omega) | fail) only [go_sem, ↓reduceIte, Nat.reduceEqDiff, Nat.reduceAdd, Nat.reduceMul, Int.reduceToNat, Int.reduceAdd, Int.reduceTDiv, Nat.reduceLeDiff])
    · intro i hi hi2 hne
      have := (g6 i (by omega) (fun _ => hne)).trans (GH i hi2 (by omega))
      simp (disch := first | assumption | omega | (simp only [push_n, set_n]; done) | (simp only [push_n, set_n]; omega) | fail) only [go_sem, ↓reduceIte, Nat.reduceEqDiff, Nat.reduceAdd, Nat.reduceMul, Int.reduceToNat, Int.reduceAdd, Int.reduceTDiv, Nat.reduceLeDiff, this]
  · rintro o h' ⟨n1, g1, g2, g3, g4, v, g5, o5, rfl, hll⟩
    simp (disch := first | assumption | omega | (simp only [push_n, set_n]; done) | (simp only [push_n, set_n]; omega) | fail) only [go_sem, ↓reduceIte, Nat.reduceEqDiff, Nat.reduceAdd, Nat.reduceMul, Int.reduceToNat, Int.reduceAdd, Int.reduceTDiv, Nat.reduceLeDiff, A3, g3, g4, g5]
    refine q _ _ ⟨?_, ?_⟩ ?_
    · (first | omega | (simp only [push_n, set_n]; done) | (simp only [push_n, set_n]; omega))
    · intro i hi
      simp (disch := first | assumption | omega | (simp only [push_n, set_n]; done) | (simp only [push_n, set_n]; omega) | fail) only [go_sem, ↓reduceIte, Nat.reduceEqDiff, Nat.reduceAdd, Nat.reduceMul, Int.reduceToNat, Int.reduceAdd, Int.reduceTDiv, Nat.reduceLeDiff, g1 i (by omega) (by omega), glow i hi]
    · exact (o5.mono (by (first | omega | (simp only [push_n, set_n]; done) | (simp only [push_n, set_n]; omega))) (fun i hi hi2 => by simp (disch := first | assumption | omega | (simp only [push_n, set_n]; done) | (simp only [push_n, set_n]; omega) | fail) only [go_sem, ↓reduceIte, Nat.reduceEqDiff, Nat.reduceAdd, Nat.reduceMul, Int.reduceToNat, Int.reduceAdd, Int.reduceTDiv, Nat.reduceLeDiff])).low (by omega)
end Go.Am.YtdcppkhobfbpeaaDoor
