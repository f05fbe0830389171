/-
  The statement IndexDrops on the abstract machine: the walk.
-/
import Derived.Test.YtdcppkhobfbpeaaDoorD27
set_option linter.unusedVariables false
set_option linter.unusedSimpArgs false
namespace Go.Am.YtdcppkhobfbpeaaDoor
open Go Go.Am Go.Proofs

theorem rs_low {h h0 h' : Heap} {s lb : Nat} {v : Value} {l : List (List Value)} (hr : RS h s v l) (x : Ext h h0) (u : Upd h0 h' lb) (hv : vb v ≠ lb) : RS h' s v l := rs_upd (hr.mono x) u hv
theorem upd_of {h0 h1 h2 : Heap} {lb : Nat} (u : Upd h0 h1 lb) (hn : h1.n ≤ h2.n) (hg : ∀ i, i < h0.n → h2.get i = h1.get i) : Upd h0 h2 lb :=
  ⟨Nat.le_trans u.1 hn, fun i hi hne => (hg i hi).trans (u.2 i hi hne)⟩

set_option maxHeartbeats 4000000 in
theorem f6_spec {h : Heap} {Q : Value → Heap → Prop} {tv sv : Value} {ns ss : List Nat} {by_ : Nat} (hb : blocks h) (hr : RS h 1 tv (ns.map u16C)) (h16 : ∀ n ∈ ns, n < 65536) (hs : RS h 1 sv (ss.map u16C)) (s16 : ∀ n ∈ ss, n < 65536)
    (hvb : vb sv = 0 ∨ 2 ≤ vb sv) (hby : by_ < 256) (q : ∀ h', Q (.bool true) h') : WC T (.func (.func 6) #[] #[]) [tv, sv, .int .u8 by_] h Q := by
  refine WC_fn T6 rfl ?_
  have lt : ∀ H, lenE H tv = some (.int .i64 ns.length, H) := fun H => by have := hr.len (h' := H); simpa using this
  have ls : ∀ H, lenE H sv = some (.int .i64 ss.length, H) := fun H => by have := hs.len (h' := H); simpa using this
  simp (disch := first | assumption | omega | (simp only [push_n, set_n]; done) | (simp only [push_n, set_n]; omega) | fail) only [go_sem, ↓reduceIte, Nat.reduceEqDiff, Nat.reduceAdd, Nat.reduceMul, Int.reduceToNat, Int.reduceAdd, Int.reduceTDiv, Nat.reduceLeDiff, ir6]
  refine f9_spec hb fun h1 x1 => ?_
  have n_x1 := Ext.n_le x1; try simp only [push_n, set_n] at n_x1
  by_cases h40 : 40 < ns.length
  · simp (disch := first | assumption | omega | (simp only [push_n, set_n]; done) | (simp only [push_n, set_n]; omega) | fail) only [go_sem, ↓reduceIte, Nat.reduceEqDiff, Nat.reduceAdd, Nat.reduceMul, Int.reduceToNat, Int.reduceAdd, Int.reduceTDiv, Nat.reduceLeDiff, lt]
    exact q _
  by_cases s40 : 40 < ss.length
  · simp (disch := first | assumption | omega | (simp only [push_n, set_n]; done) | (simp only [push_n, set_n]; omega) | fail) only [go_sem, ↓reduceIte, Nat.reduceEqDiff, Nat.reduceAdd, Nat.reduceMul, Int.reduceToNat, Int.reduceAdd, Int.reduceTDiv, Nat.reduceLeDiff, lt, ls]
    exact q _
  simp (disch := first | assumption | omega | (simp only [push_n, set_n]; done) | (simp only [push_n, set_n]; omega) | fail) only [go_sem, ↓reduceIte, Nat.reduceEqDiff, Nat.reduceAdd, Nat.reduceMul, Int.reduceToNat, Int.reduceAdd, Int.reduceTDiv, Nat.reduceLeDiff, lt, ls]
  refine f11_spec (hr.mono x1) (by omega) h16 fun v h2 x2 o2 => ?_
  have n_x2 := Ext.n_le x2; try simp only [push_n, set_n] at n_x2
  have hg := madeM_good ns
  have b2 : blocks h2 := (hb.ext x1).ext x2
  have hb1 := hb.1
  have r2 := o2.rs
  have hvv : vb v = 0 ∨ h1.n ≤ vb v := by
    rcases o2.is with ⟨e, _⟩ | ⟨b, e, _, e2, _⟩
    · left; rw [e]; rfl
    · right; rw [e]; exact e2
  have hvl := rs_vb r2 (by omega)
  simp (disch := first | assumption | omega | (simp only [push_n, set_n]; done) | (simp only [push_n, set_n]; omega) | fail) only [go_sem, ↓reduceIte, Nat.reduceEqDiff, Nat.reduceAdd, Nat.reduceMul, Int.reduceToNat, Int.reduceAdd, Int.reduceTDiv, Nat.reduceLeDiff]
  refine f10_spec (cs := madeM ns) b2 r2 hg.ok (by have := hg.len; omega) ?_
  intro xb lb h3 x3 hxb hlb i3
  have n_x3 := Ext.n_le x3; try simp only [push_n, set_n] at n_x3
  have hml := hg.len
  change IX h3 xb lb (news (madeM ns)) at i3
  have c3 := news_calm ns
  have wf3 := news_wf ns
  have hnc := news_c (madeM ns)
  have hnl : (news (madeM ns)).length = (madeM ns).length := by simp [news]
  have b3 : blocks h3 := b2.ext x3
  have hlb0 : lb ≠ 0 := by omega
  have hsvl : vb sv ≠ lb := by have := rs_vb hs (by omega); omega
  have r3 := r2.mono x3
  have hok := hg.ok
  generalize hl0 : news (madeM ns) = l0 at *
  generalize madeM ns = cs at *
  simp (disch := first | assumption | omega | (simp only [push_n, set_n]; done) | (simp only [push_n, set_n]; omega) | fail) only [go_sem, ↓reduceIte, Nat.reduceEqDiff, Nat.reduceAdd, Nat.reduceMul, Int.reduceToNat, Int.reduceAdd, Int.reduceTDiv, Nat.reduceLeDiff]
  refine f35_spec (l := l0) (xb := xb) (lb := lb) i3 (by omega) fun v4 h4 x4 o4 => ?_
  have n_x4 := Ext.n_le x4; try simp only [push_n, set_n] at n_x4
  rw [calm_frees c3, hnc] at o4
  simp (disch := first | assumption | omega | (simp only [push_n, set_n]; done) | (simp only [push_n, set_n]; omega) | fail) only [go_sem, ↓reduceIte, Nat.reduceEqDiff, Nat.reduceAdd, Nat.reduceMul, Int.reduceToNat, Int.reduceAdd, Int.reduceTDiv, Nat.reduceLeDiff]
  refine f37_spec (b3.ext x4) (r3.mono x4) hok (by omega) fun v5 h5 x5 o5 => ?_
  have n_x5 := Ext.n_le x5; try simp only [push_n, set_n] at n_x5
  have l3 := i3.ln
  have hv4 : vb v4 ≠ lb := by
    rcases o4.is with ⟨e, _⟩ | ⟨b, e, _, e2, _⟩
    · rw [e]; exact Ne.symm hlb0
    · rw [e]; show b ≠ lb; omega
  have hv5 : vb v5 ≠ lb := by
    rcases o5.is with ⟨e, _⟩ | ⟨b, e, _, e2, _⟩
    · rw [e]; exact Ne.symm hlb0
    · rw [e]; show b ≠ lb; omega
  have r4 : RS h5 2 v4 ((rowsOf (cs.map Ck.may)).map spanC) := o4.rs.mono x5
  have r5 := o5.rs
  have rs5 : RS h5 1 sv (ss.map u16C) := ((((hs.mono x1).mono x2).mono x3).mono x4).mono x5
  have i5 := (i3.ext x4).ext x5
  have b5 := (b3.ext x4).ext x5
  have hbl : (blocksM cs).length ≤ 8 * cs.length := blocksFrom_length (i := 0) hok
  have hrl : (rowsOf (cs.map Ck.may)).length ≤ 21 := by have := rowsAux_length (cs.map Ck.may) 0 0; unfold rowsOf; rw [List.length_map] at this; omega
  have xn5 := i5.xn
  have ln5 := i5.ln
  clear o4 o5
  simp (disch := first | assumption | omega | (simp only [push_n, set_n]; done) | (simp only [push_n, set_n]; omega) | fail) only [go_sem, ↓reduceIte, Nat.reduceEqDiff, Nat.reduceAdd, Nat.reduceMul, Int.reduceToNat, Int.reduceAdd, Int.reduceTDiv, Nat.reduceLeDiff]
  refine WE_loop (fun m a h' => ∃ (i : Nat) (l : List One) (P : List Pl) (w : Value), m = ss.length - i ∧ i ≤ ss.length ∧ a.get 1 = sv ∧ a.get 2 = .int .u8 by_ ∧ a.get 7 = .bool true ∧ a.get 9 = .pointer (some ⟨xb, 0, none⟩) ∧ a.get 10 = v4 ∧ a.get 11 = v5 ∧ a.get 12 = w ∧ a.get 13 = .int .i64 i ∧ a.marks = [] ∧
    Upd h5 h' lb ∧ IX h' xb lb l ∧ OS h' 30 5 h5.n w (P.map Pl.cells) ∧ P.length ≤ i ∧ Wf l ∧ l.length = cs.length ∧ Alike cs (tableM l) ∧ PInv l P) ?_ (m := ss.length)
    ⟨0, l0, [], .slice none 0 0, by omega, by omega, by simp (disch := first | assumption | omega | (simp only [push_n, set_n]; done) | (simp only [push_n, set_n]; omega) | fail) only [go_sem, ↓reduceIte, Nat.reduceEqDiff, Nat.reduceAdd, Nat.reduceMul, Int.reduceToNat, Int.reduceAdd, Int.reduceTDiv, Nat.reduceLeDiff], by simp (disch := first | assumption | omega | (simp only [push_n, set_n]; done) | (simp only [push_n, set_n]; omega) | fail) only [go_sem, ↓reduceIte, Nat.reduceEqDiff, Nat.reduceAdd, Nat.reduceMul, Int.reduceToNat, Int.reduceAdd, Int.reduceTDiv, Nat.reduceLeDiff], by simp (disch := first | assumption | omega | (simp only [push_n, set_n]; done) | (simp only [push_n, set_n]; omega) | fail) only [go_sem, ↓reduceIte, Nat.reduceEqDiff, Nat.reduceAdd, Nat.reduceMul, Int.reduceToNat, Int.reduceAdd, Int.reduceTDiv, Nat.reduceLeDiff], by simp (disch := first | assumption | omega | (simp only [push_n, set_n]; done) | (simp only [push_n, set_n]; omega) | fail) only [go_sem, ↓reduceIte, Nat.reduceEqDiff, Nat.reduceAdd, Nat.reduceMul, Int.reduceToNat, Int.reduceAdd, Int.reduceTDiv, Nat.reduceLeDiff], by simp (disch := first | assumption | omega | (simp only [push_n, set_n]; done) | (simp only [push_n, set_n]; omega) | fail) only [go_sem, ↓reduceIte, Nat.reduceEqDiff, Nat.reduceAdd, Nat.reduceMul, Int.reduceToNat, Int.reduceAdd, Int.reduceTDiv, Nat.reduceLeDiff], by simp (disch := first | assumption | omega | (simp only [push_n, set_n]; done) | (simp only [push_n, set_n]; omega) | fail) only [go_sem, ↓reduceIte, Nat.reduceEqDiff, Nat.reduceAdd, Nat.reduceMul, Int.reduceToNat, Int.reduceAdd, Int.reduceTDiv, Nat.reduceLeDiff], by simp (disch := first | assumption | omega | (simp only [push_n, set_n]; done) | (simp only [push_n, set_n]; omega) | fail) only [go_sem, ↓reduceIte, Nat.reduceEqDiff, Nat.reduceAdd, Nat.reduceMul, Int.reduceToNat, Int.reduceAdd, Int.reduceTDiv, Nat.reduceLeDiff], by simp (disch := first | assumption | omega | (simp only [push_n, set_n]; done) | (simp only [push_n, set_n]; omega) | fail) only [go_sem, ↓reduceIte, Nat.reduceEqDiff, Nat.reduceAdd, Nat.reduceMul, Int.reduceToNat, Int.reduceAdd, Int.reduceTDiv, Nat.reduceLeDiff], rfl, Ext.upd (Ext.refl _), i5, OS.nil, by simp, wf3, by omega, by rw [calm_table c3, hnc]; exact Alike.refl _, calm_pinv c3⟩
  rintro m a h6 ⟨i, l, P, w, rfl, hil, a1, a2, a7, a9, a10, a11, a12, a13, am, u6, i6, o6, hPl, wf6, hl6, al6, pi6⟩
  have n6 := u6.1
  by_cases hin : i < ss.length
  · obtain ⟨s, hsi⟩ : ∃ s, ss[i]? = some s := ⟨_, List.getElem?_eq_getElem hin⟩
    have hs16 := s16 s (List.mem_of_getElem? hsi)
    have rs6 := rs_upd rs5 u6 hsvl
    obtain ⟨b, cc, e, ro, hv, hgb, hbn⟩ := rs6.atM hin
    have hl := getAt_map1 (f := u16C) (fun _ => rfl) hsi
    have e7 : (s : Int).tmod 200 = ((s % 200 : Nat) : Int) := by rw [Int.tmod_eq_emod_of_nonneg (by omega)]; omega
    have e1 := a1
    rw [hv] at a1
    simp (disch := first | assumption | omega | (simp only [push_n, set_n]; done) | (simp only [push_n, set_n]; omega) | fail) only [go_sem, ↓reduceIte, Nat.reduceEqDiff, Nat.reduceAdd, Nat.reduceMul, Int.reduceToNat, Int.reduceAdd, Int.reduceTDiv, Nat.reduceLeDiff, ls, a1, a2, a7, a9, a10, a11, a12, a13, am, hgb, hl, u16C, e7]
    have hn7 : s % 200 ≤ 4096 := by omega
    have htk := take_step wf6 hn7
    generalize s % 200 = n at *
    refine f12_spec (n := n) (l := l) (xb := xb) (lb := lb) (blocks.upd b5 u6 hlb0) i6 (by omega) hn7 ?_
    intro h7 u7 i7
    have n7 := u7.1
    generalize takeM l n = r at *
    obtain ⟨⟨pc, pi, pk, pm, pf⟩, er, l'⟩ := r
    simp only at htk i7
    have o7 : OS h7 30 5 h5.n w (P.map Pl.cells) := o6.mono n7 fun i hi hi2 => u7.2 i hi2 (by omega)
    have u57 : Upd h5 h7 lb := Upd.trans u6 u7
    have xn7 := i7.xn
    have ln7 := i7.ln
    rcases htk with ⟨rfl, rfl⟩ | ⟨rfl, im, mm, tk⟩
    · have wf7 := wf6
      have al7 := al6
      simp (disch := first | assumption | omega | (simp only [push_n, set_n]; done) | (simp only [push_n, set_n]; omega) | fail) only [go_sem, ↓reduceIte, Nat.reduceEqDiff, Nat.reduceAdd, Nat.reduceMul, Int.reduceToNat, Int.reduceAdd, Int.reduceTDiv, Nat.reduceLeDiff, a1, a2, a7, a9, a10, a11, a12, a13, am, Pl.cells]
      have u8 : Upd h5 (h7.push (.cells [.int .i64 pc, .int .i64 pi, .int .i64 pk, .int .i64 pm, .bool pf] 30 false)) lb := Upd.push u57
      have i8 := IX.ext i7 (h' := h7.push (.cells [.int .i64 pc, .int .i64 pi, .int .i64 pk, .int .i64 pm, .bool pf] 30 false)) (by repeat (first | assumption | exact Ext.refl _ | refine Ext.push ?_ | refine Ext.set ?_ (by omega) | refine Ext.trans ?_ (by assumption)))
      refine f16_spec (l := l') (xb := xb) (lb := lb) (blocks.upd b5 u8 hlb0) i8 (by omega) wf7.ok fun v9 h9 x9 o9 => ?_
      have n_x9 := Ext.n_le x9; try simp only [push_n, set_n] at n_x9
      simp (disch := first | assumption | omega | (simp only [push_n, set_n]; done) | (simp only [push_n, set_n]; omega) | fail) only [go_sem, ↓reduceIte, Nat.reduceEqDiff, Nat.reduceAdd, Nat.reduceMul, Int.reduceToNat, Int.reduceAdd, Int.reduceTDiv, Nat.reduceLeDiff, a1, a2, a7, a9, a10, a11, a12, a13, am]
      refine f37_spec (cs := tableM l') ((blocks.upd b5 u8 hlb0).ext x9) o9.rs wf7.table (by rw [table_length]; omega) fun v10 h10 x10 o10 => ?_
      have n_x10 := Ext.n_le x10; try simp only [push_n, set_n] at n_x10
      rw [show blocksM (tableM l') = blocksM cs from (al7.blocks (i := 0)).symm] at o10
      have u10 : Upd h5 h10 lb := Upd.trans u8 (Ext.upd (x9.trans x10))
      simp (disch := first | assumption | omega | (simp only [push_n, set_n]; done) | (simp only [push_n, set_n]; omega) | fail) only [go_sem, ↓reduceIte, Nat.reduceEqDiff, Nat.reduceAdd, Nat.reduceMul, Int.reduceToNat, Int.reduceAdd, Int.reduceTDiv, Nat.reduceLeDiff, a1, a2, a7, a9, a10, a11, a12, a13, am]
      refine f38_spec (xs := blocksM cs) o10.rs (rs_upd r5 u10 hv5) (by omega) ?_
      simp (disch := first | assumption | omega | (simp only [push_n, set_n]; done) | (simp only [push_n, set_n]; omega) | fail) only [go_sem, ↓reduceIte, Nat.reduceEqDiff, Nat.reduceAdd, Nat.reduceMul, Int.reduceToNat, Int.reduceAdd, Int.reduceTDiv, Nat.reduceLeDiff, a1, a2, a7, a9, a10, a11, a12, a13, am]
      exact ⟨_, Nat.sub_lt_sub_left hin (Nat.lt_succ_self i), i + 1, l', P, w, rfl, by omega, hv.symm, rfl, rfl, u10, IX.ext i8 (x9.trans x10), (o7.ext (by repeat (first | assumption | exact Ext.refl _ | refine Ext.push ?_ | refine Ext.set ?_ (by omega) | refine Ext.trans ?_ (by assumption)))).ext (x9.trans x10), by omega, wf6, hl6, al6, pi6⟩
    · have wf7 := tk.wf
      have al7 := al6.trans tk.alike
      have hl7 := tk.len
      have pi7 := pi6.take tk
      obtain ⟨w', h8, e8, o8, n8, g8, b8⟩ := (o7.ext (h' := (h7.push (.cells [.int .i64 pc, .int .i64 pi, .int .i64 pk, .int .i64 pm, .bool pf] 30 false)).push (.cells [.int .i64 pc, .int .i64 pi, .int .i64 pk, .int .i64 pm, .bool pf] 30 false)) (by repeat (first | assumption | exact Ext.refl _ | refine Ext.push ?_ | refine Ext.set ?_ (by omega) | refine Ext.trans ?_ (by assumption)))).app (bytes := 40) (B := h7.n + 1) (get_push_eq (by (first | omega | (simp only [push_n, set_n]; done) | (simp only [push_n, set_n]; omega)))) rfl (by (first | omega | (simp only [push_n, set_n]; done) | (simp only [push_n, set_n]; omega))) (by decide) (by simp; omega)
      simp only [push_n] at n8 g8 b8
      have vc8 := o8.vc
      have G : ∀ j, j < h5.n → h8.get j = h7.get j := fun j hj => by
        rw [g8 j (by omega) (fun hne => by have := (o7.vb_le hne).1; omega)]
        simp (disch := first | assumption | omega | (simp only [push_n, set_n]; done) | (simp only [push_n, set_n]; omega) | fail) only [go_sem, ↓reduceIte, Nat.reduceEqDiff, Nat.reduceAdd, Nat.reduceMul, Int.reduceToNat, Int.reduceAdd, Int.reduceTDiv, Nat.reduceLeDiff]
      have u8 : Upd h5 h8 lb := upd_of u57 (by omega) G
      have i8 : IX h8 xb lb l' := IX.keep i7 (by omega) (G xb xn5) (G lb ln5)
      simp (disch := first | assumption | omega | (simp only [push_n, set_n]; done) | (simp only [push_n, set_n]; omega) | fail) only [go_sem, ↓reduceIte, Nat.reduceEqDiff, Nat.reduceAdd, Nat.reduceMul, Int.reduceToNat, Int.reduceAdd, Int.reduceTDiv, Nat.reduceLeDiff, a1, a2, a7, a9, a10, a11, a12, a13, am, Pl.cells, e8]
      refine f16_spec (l := l') (xb := xb) (lb := lb) (blocks.upd b5 u8 hlb0) i8 (by omega) wf7.ok fun v9 h9 x9 o9 => ?_
      have n_x9 := Ext.n_le x9; try simp only [push_n, set_n] at n_x9
      simp (disch := first | assumption | omega | (simp only [push_n, set_n]; done) | (simp only [push_n, set_n]; omega) | fail) only [go_sem, ↓reduceIte, Nat.reduceEqDiff, Nat.reduceAdd, Nat.reduceMul, Int.reduceToNat, Int.reduceAdd, Int.reduceTDiv, Nat.reduceLeDiff, a1, a2, a7, a9, a10, a11, a12, a13, am]
      refine f37_spec (cs := tableM l') ((blocks.upd b5 u8 hlb0).ext x9) o9.rs wf7.table (by rw [table_length]; omega) fun v10 h10 x10 o10 => ?_
      have n_x10 := Ext.n_le x10; try simp only [push_n, set_n] at n_x10
      rw [show blocksM (tableM l') = blocksM cs from (al7.blocks (i := 0)).symm] at o10
      have u10 : Upd h5 h10 lb := Upd.trans u8 (Ext.upd (x9.trans x10))
      simp (disch := first | assumption | omega | (simp only [push_n, set_n]; done) | (simp only [push_n, set_n]; omega) | fail) only [go_sem, ↓reduceIte, Nat.reduceEqDiff, Nat.reduceAdd, Nat.reduceMul, Int.reduceToNat, Int.reduceAdd, Int.reduceTDiv, Nat.reduceLeDiff, a1, a2, a7, a9, a10, a11, a12, a13, am]
      refine f38_spec (xs := blocksM cs) o10.rs (rs_upd r5 u10 hv5) (by omega) ?_
      simp (disch := first | assumption | omega | (simp only [push_n, set_n]; done) | (simp only [push_n, set_n]; omega) | fail) only [go_sem, ↓reduceIte, Nat.reduceEqDiff, Nat.reduceAdd, Nat.reduceMul, Int.reduceToNat, Int.reduceAdd, Int.reduceTDiv, Nat.reduceLeDiff, a1, a2, a7, a9, a10, a11, a12, a13, am]
      refine ⟨_, Nat.sub_lt_sub_left hin (Nat.lt_succ_self i), i + 1, l', P ++ [⟨pc, pi, pk, pm, pf⟩], w', rfl, by omega, hv.symm, rfl, rfl, u10, IX.ext i8 (x9.trans x10), ?_, by simp; omega, wf7, by omega, al7, pi7⟩
      rw [List.map_append]
      exact o8.ext (x9.trans x10)
  · obtain rfl : i = ss.length := by omega
    have w6 := o6.ixv
    have g6 := o6.cells
    have p6 := o6.vb_le
    rw [List.length_map] at w6
    generalize vb w = W at *
    subst w6
    have u6' := u6
    simp (disch := first | assumption | omega | (simp only [push_n, set_n]; done) | (simp only [push_n, set_n]; omega) | fail) only [go_sem, ↓reduceIte, Nat.reduceEqDiff, Nat.reduceAdd, Nat.reduceMul, Int.reduceToNat, Int.reduceAdd, Int.reduceTDiv, Nat.reduceLeDiff, ls, a1, a2, a7, a9, a10, a11, a12, a13, am]
    refine WE_loop (fun m a' h' => ∃ (j : Nat) (l : List One), m = P.length - j ∧ j ≤ P.length ∧ a'.get 2 = .int .u8 by_ ∧ a'.get 7 = .bool true ∧ a'.get 9 = .pointer (some ⟨xb, 0, none⟩) ∧ a'.get 10 = v4 ∧ a'.get 11 = v5 ∧ a'.get 12 = ixv W P.length ∧ a'.get 16 = .int .i64 j ∧ a'.marks = [] ∧
      Upd h6 h' lb ∧ IX h' xb lb l ∧ Wf l ∧ l.length = cs.length ∧ Alike cs (tableM l) ∧ PInv l ((P.drop (by_ % P.length) ++ P.take (by_ % P.length)).drop j)) ?_ (m := P.length)
      ⟨0, l, by omega, by omega, by simp (disch := first | assumption | omega | (simp only [push_n, set_n]; done) | (simp only [push_n, set_n]; omega) | fail) only [go_sem, ↓reduceIte, Nat.reduceEqDiff, Nat.reduceAdd, Nat.reduceMul, Int.reduceToNat, Int.reduceAdd, Int.reduceTDiv, Nat.reduceLeDiff, a2], by simp (disch := first | assumption | omega | (simp only [push_n, set_n]; done) | (simp only [push_n, set_n]; omega) | fail) only [go_sem, ↓reduceIte, Nat.reduceEqDiff, Nat.reduceAdd, Nat.reduceMul, Int.reduceToNat, Int.reduceAdd, Int.reduceTDiv, Nat.reduceLeDiff, a7], by simp (disch := first | assumption | omega | (simp only [push_n, set_n]; done) | (simp only [push_n, set_n]; omega) | fail) only [go_sem, ↓reduceIte, Nat.reduceEqDiff, Nat.reduceAdd, Nat.reduceMul, Int.reduceToNat, Int.reduceAdd, Int.reduceTDiv, Nat.reduceLeDiff, a9], by simp (disch := first | assumption | omega | (simp only [push_n, set_n]; done) | (simp only [push_n, set_n]; omega) | fail) only [go_sem, ↓reduceIte, Nat.reduceEqDiff, Nat.reduceAdd, Nat.reduceMul, Int.reduceToNat, Int.reduceAdd, Int.reduceTDiv, Nat.reduceLeDiff, a10], by simp (disch := first | assumption | omega | (simp only [push_n, set_n]; done) | (simp only [push_n, set_n]; omega) | fail) only [go_sem, ↓reduceIte, Nat.reduceEqDiff, Nat.reduceAdd, Nat.reduceMul, Int.reduceToNat, Int.reduceAdd, Int.reduceTDiv, Nat.reduceLeDiff, a11], by simp (disch := first | assumption | omega | (simp only [push_n, set_n]; done) | (simp only [push_n, set_n]; omega) | fail) only [go_sem, ↓reduceIte, Nat.reduceEqDiff, Nat.reduceAdd, Nat.reduceMul, Int.reduceToNat, Int.reduceAdd, Int.reduceTDiv, Nat.reduceLeDiff, a12], by simp (disch := first | assumption | omega | (simp only [push_n, set_n]; done) | (simp only [push_n, set_n]; omega) | fail) only [go_sem, ↓reduceIte, Nat.reduceEqDiff, Nat.reduceAdd, Nat.reduceMul, Int.reduceToNat, Int.reduceAdd, Int.reduceTDiv, Nat.reduceLeDiff], rfl, Ext.upd (Ext.refl _), i6, wf6, hl6, al6, by rw [List.drop_zero]; exact pi6.perm rot_perm⟩
    clear a1 a2 a7 a9 a10 a11 a12 a13 am wf6 hl6 al6 pi6
    rintro m a3 h7 ⟨j, l7, rfl, hjl, a2, a7, a9, a10, a11, a12, a16, am, u7, i7, wf7, hl7, al7, pi7⟩
    have n7 := u7.1
    have u57 : Upd h5 h7 lb := ⟨by omega, fun i hi hne => (u7.2 i (by omega) hne).trans (u6.2 i hi hne)⟩
    have b7 := blocks.upd b5 u57 hlb0
    have ln7 := i7.ln
    by_cases hjn : j < P.length
    · have hrg := rot_get (b := by_) hjn
      have hml : (j + by_) % P.length < P.length := Nat.mod_lt _ (by omega)
      have e9 : ((j : Int) + (by_ : Int)).tmod (P.length : Int) = (((j + by_) % P.length : Nat) : Int) := by rw [Int.tmod_eq_emod_of_nonneg (by omega)]; simp
      generalize (j + by_) % P.length = ix at *
      obtain ⟨p, hp⟩ : ∃ p, P[ix]? = some p := ⟨_, List.getElem?_eq_getElem hml⟩
      rw [hp] at hrg
      have hPne : P ≠ [] := by intro e; subst e; simp at hjn
      have hWn := p6 (by simpa using hPne)
      have gW := (u7.2 W hWn.2 (by omega)).trans (g6 (by simpa using hPne))
      have hl := getAt_map (f := Pl.cells) (s := 5) (fun _ => rfl) hp
      have hjr : j < (P.drop (by_ % P.length) ++ P.take (by_ % P.length)).length := lt_of_get hrg
      rw [List.drop_eq_getElem_cons hjr] at pi7
      rw [List.getElem?_eq_getElem hjr] at hrg
      injection hrg with hrg
      rw [hrg] at pi7
      obtain ⟨im, mm, hheld⟩ := pi7.held p (by simp)
      obtain ⟨l8, hdr, dk⟩ := drop_step wf7 hheld
      have pi8 := pi7.drop hheld.chunk dk
      have hl8 := dk.len
      obtain ⟨pc, pi, pk, pm, pf⟩ := p
      simp (disch := first | assumption | omega | (simp only [push_n, set_n]; done) | (simp only [push_n, set_n]; omega) | fail) only [go_sem, ↓reduceIte, Nat.reduceEqDiff, Nat.reduceAdd, Nat.reduceMul, Int.reduceToNat, Int.reduceAdd, Int.reduceTDiv, Nat.reduceLeDiff, a2, a7, a9, a10, a11, a12, a16, am, e9, gW, hl, Pl.cells]
      refine f24_spec (p := ⟨pc, pi, pk, pm, pf⟩) (l := l7) (xb := xb) (lb := lb) (b7.ext (by repeat (first | assumption | exact Ext.refl _ | refine Ext.push ?_ | refine Ext.set ?_ (by omega) | refine Ext.trans ?_ (by assumption)))) (IX.ext i7 (by repeat (first | assumption | exact Ext.refl _ | refine Ext.push ?_ | refine Ext.set ?_ (by omega) | refine Ext.trans ?_ (by assumption)))) (by omega) wf7.fits ?_
      rw [hdr]
      intro h8 u8 i8
      have n8 := u8.1
      simp only [push_n] at n8
      change IX h8 xb lb l8 at i8
      have u78 : Upd h7 h8 lb := Upd.of_push u8
      have u58 : Upd h5 h8 lb := Upd.trans u57 u78
      simp (disch := first | assumption | omega | (simp only [push_n, set_n]; done) | (simp only [push_n, set_n]; omega) | fail) only [go_sem, ↓reduceIte, Nat.reduceEqDiff, Nat.reduceAdd, Nat.reduceMul, Int.reduceToNat, Int.reduceAdd, Int.reduceTDiv, Nat.reduceLeDiff, a2, a7, a9, a10, a11, a12, a16, am, okM, u8.2]
      refine f24_spec (p := ⟨pc, pi, pk, pm, pf⟩) (l := l8) (xb := xb) (lb := lb) (blocks.upd b5 u58 hlb0) i8 (by omega) dk.wf.fits ?_
      rw [dk.nodrop]
      intro h9 u9 i9
      have n9 := u9.1
      change IX h9 xb lb l8 at i9
      have u79 : Upd h7 h9 lb := Upd.trans u78 u9
      have u59 : Upd h5 h9 lb := Upd.trans u58 u9
      simp (disch := first | assumption | omega | (simp only [push_n, set_n]; done) | (simp only [push_n, set_n]; omega) | fail) only [go_sem, ↓reduceIte, Nat.reduceEqDiff, Nat.reduceAdd, Nat.reduceMul, Int.reduceToNat, Int.reduceAdd, Int.reduceTDiv, Nat.reduceLeDiff, a2, a7, a9, a10, a11, a12, a16, am, okM, u8.2, u9.2]
      refine f13_spec (p := ⟨pc, pi, pk, pm, pf⟩) (l := l8) (xb := xb) (lb := lb) (blocks.upd b5 u59 hlb0) i9 (by omega) ?_
      rw [dk.nokeep]
      intro h10 u10 i10
      change IX h10 xb lb l8 at i10
      simp (disch := first | assumption | omega | (simp only [push_n, set_n]; done) | (simp only [push_n, set_n]; omega) | fail) only [go_sem, ↓reduceIte, Nat.reduceEqDiff, Nat.reduceAdd, Nat.reduceMul, Int.reduceToNat, Int.reduceAdd, Int.reduceTDiv, Nat.reduceLeDiff, a2, a7, a9, a10, a11, a12, a16, am, okM]
      exact ⟨_, Nat.sub_lt_sub_left hjn (Nat.lt_succ_self j), j + 1, l8, rfl, by omega, rfl, Upd.trans u7 (Upd.trans u79 u10), i10, dk.wf, by omega, al7.trans dk.alike, pi8⟩
    · obtain rfl : j = P.length := by omega
      rw [List.drop_eq_nil_of_le (by simp; omega)] at pi7
      have cl7 := pi7.calm wf7
      simp (disch := first | assumption | omega | (simp only [push_n, set_n]; done) | (simp only [push_n, set_n]; omega) | fail) only [go_sem, ↓reduceIte, Nat.reduceEqDiff, Nat.reduceAdd, Nat.reduceMul, Int.reduceToNat, Int.reduceAdd, Int.reduceTDiv, Nat.reduceLeDiff, a2, a7, a9, a10, a11, a12, a16, am]
      refine f35_spec (l := l7) (xb := xb) (lb := lb) i7 (by omega) fun v8 h8 x8 o8 => ?_
      have n_x8 := Ext.n_le x8; try simp only [push_n, set_n] at n_x8
      rw [calm_frees cl7, ← calm_table cl7, ← al7.may] at o8
      have u58 : Upd h5 h8 lb := Upd.trans u57 (Ext.upd x8)
      simp (disch := first | assumption | omega | (simp only [push_n, set_n]; done) | (simp only [push_n, set_n]; omega) | fail) only [go_sem, ↓reduceIte, Nat.reduceEqDiff, Nat.reduceAdd, Nat.reduceMul, Int.reduceToNat, Int.reduceAdd, Int.reduceTDiv, Nat.reduceLeDiff, a2, a7, a9, a10, a11, a12, a16, am]
      refine f34_spec (xs := rowsOf (cs.map Ck.may)) o8.rs (rs_upd r4 u58 hv4) (by omega) ?_
      simp (disch := first | assumption | omega | (simp only [push_n, set_n]; done) | (simp only [push_n, set_n]; omega) | fail) only [go_sem, ↓reduceIte, Nat.reduceEqDiff, Nat.reduceAdd, Nat.reduceMul, Int.reduceToNat, Int.reduceAdd, Int.reduceTDiv, Nat.reduceLeDiff, a2, a7, a9, a10, a11, a12, a16, am]
      refine f16_spec (l := l7) (xb := xb) (lb := lb) (blocks.upd b5 u58 hlb0) (IX.ext i7 x8) (by omega) wf7.ok fun v9 h9 x9 o9 => ?_
      have n_x9 := Ext.n_le x9; try simp only [push_n, set_n] at n_x9
      simp (disch := first | assumption | omega | (simp only [push_n, set_n]; done) | (simp only [push_n, set_n]; omega) | fail) only [go_sem, ↓reduceIte, Nat.reduceEqDiff, Nat.reduceAdd, Nat.reduceMul, Int.reduceToNat, Int.reduceAdd, Int.reduceTDiv, Nat.reduceLeDiff, a2, a7, a9, a10, a11, a12, a16, am]
      refine f37_spec (cs := tableM l7) ((blocks.upd b5 u58 hlb0).ext x9) o9.rs wf7.table (by rw [table_length]; omega) fun v10 h10 x10 o10 => ?_
      rw [show blocksM (tableM l7) = blocksM cs from (al7.blocks (i := 0)).symm] at o10
      have u10 : Upd h5 h10 lb := Upd.trans u58 (Ext.upd (x9.trans x10))
      simp (disch := first | assumption | omega | (simp only [push_n, set_n]; done) | (simp only [push_n, set_n]; omega) | fail) only [go_sem, ↓reduceIte, Nat.reduceEqDiff, Nat.reduceAdd, Nat.reduceMul, Int.reduceToNat, Int.reduceAdd, Int.reduceTDiv, Nat.reduceLeDiff, a2, a7, a9, a10, a11, a12, a16, am]
      refine f38_spec (xs := blocksM cs) o10.rs (rs_upd r5 u10 hv5) (by omega) ?_
      simp (disch := first | assumption | omega | (simp only [push_n, set_n]; done) | (simp only [push_n, set_n]; omega) | fail) only [go_sem, ↓reduceIte, Nat.reduceEqDiff, Nat.reduceAdd, Nat.reduceMul, Int.reduceToNat, Int.reduceAdd, Int.reduceTDiv, Nat.reduceLeDiff, a2, a7, a9, a10, a11, a12, a16, am]
      exact q _
end Go.Am.YtdcppkhobfbpeaaDoor
