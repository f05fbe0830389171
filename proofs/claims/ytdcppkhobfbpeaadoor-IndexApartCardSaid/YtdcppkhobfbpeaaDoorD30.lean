/-
  The statement IndexApart on the abstract machine: the walk.
-/
import Derived.Test.YtdcppkhobfbpeaaDoorD29
import Derived.Test.YtdcppkhobfbpeaaDoorD28
set_option linter.unusedVariables false
set_option linter.unusedSimpArgs false
namespace Go.Am.YtdcppkhobfbpeaaDoor
open Go Go.Am Go.Proofs

set_option maxHeartbeats 4000000 in
theorem f7_spec {h : Heap} {Q : Value → Heap → Prop} {tv sv : Value} {ns ss : List Nat} (hb : blocks h) (hr : RS h 1 tv (ns.map u16C)) (h16 : ∀ n ∈ ns, n < 65536) (hs : RS h 1 sv (ss.map u16C)) (s16 : ∀ n ∈ ss, n < 65536)
    (hvb : vb sv = 0 ∨ 2 ≤ vb sv) (q : ∀ h', Q (.bool true) h') : WC T (.func (.func 7) #[] #[]) [tv, sv] h Q := by
  refine WC_fn T7 rfl ?_
  have lt : ∀ H, lenE H tv = some (.int .i64 ns.length, H) := fun H => by have := hr.len (h' := H); simpa using this
  have ls : ∀ H, lenE H sv = some (.int .i64 ss.length, H) := fun H => by have := hs.len (h' := H); simpa using this
  simp (disch := first | assumption | omega | (simp only [push_n, set_n]; done) | (simp only [push_n, set_n]; omega) | fail) only [go_sem, ↓reduceIte, Nat.reduceEqDiff, Nat.reduceAdd, Nat.reduceMul, Int.reduceToNat, Int.reduceAdd, Int.reduceTDiv, Nat.reduceLeDiff, ir7]
  refine f9_spec hb fun h1 x1 => ?_
  have n_x1 := Ext.n_le x1; try simp only [push_n, set_n] at n_x1
  by_cases h40 : 40 < ns.length
  · simp (disch := first | assumption | omega | (simp only [push_n, set_n]; done) | (simp only [push_n, set_n]; omega) | fail) only [go_sem, ↓reduceIte, Nat.reduceEqDiff, Nat.reduceAdd, Nat.reduceMul, Int.reduceToNat, Int.reduceAdd, Int.reduceTDiv, Nat.reduceLeDiff, lt]
    exact q _
  by_cases s40 : 40 < ss.length
  · simp (disch := first | assumption | omega | (simp only [push_n, set_n]; done) | (simp only [push_n, set_n]; omega) | fail) only [go_sem, ↓reduceIte, Nat.reduceEqDiff, Nat.reduceAdd, Nat.reduceMul, Int.reduceToNat, Int.reduceAdd, Int.reduceTDiv, Nat.reduceLeDiff, lt, ls]
    exact q _
  simp (disch := first | assumption | omega | (simp only [push_n, set_n]; done) | (simp only [push_n, set_n]; omega) | fail) only [go_sem, ↓reduceIte, Nat.reduceEqDiff, Nat.reduceAdd, Nat.reduceMul, Int.reduceToNat, Int.reduceAdd, Int.reduceTDiv, Nat.reduceLeDiff, lt, ls]
  refine f11_spec (hr.mono x1) (by omega) h16 fun v h2 x2 o2 => ?_
  have n_x2 := Ext.n_le x2; try simp only [push_n, set_n] at n_x2
  have hg := madeM_good ns
  have hrt := madeM_right ns
  have b2 : blocks h2 := (hb.ext x1).ext x2
  have hb1 := hb.1
  have r2 := o2.rs
  simp (disch := first | assumption | omega | (simp only [push_n, set_n]; done) | (simp only [push_n, set_n]; omega) | fail) only [go_sem, ↓reduceIte, Nat.reduceEqDiff, Nat.reduceAdd, Nat.reduceMul, Int.reduceToNat, Int.reduceAdd, Int.reduceTDiv, Nat.reduceLeDiff]
  refine f10_spec (cs := madeM ns) b2 r2 hg.ok (by have := hg.len; omega) ?_
  intro xb lb h3 x3 hxb hlb i3
  have n_x3 := Ext.n_le x3; try simp only [push_n, set_n] at n_x3
  have hml := hg.len
  change IX h3 xb lb (news (madeM ns)) at i3
  have c3 := news_calm ns
  have hnc := news_c (madeM ns)
  have hnl : (news (madeM ns)).length = (madeM ns).length := by simp [news]
  have b3 : blocks h3 := b2.ext x3
  have hlb0 : lb ≠ 0 := by omega
  have hsvl : vb sv ≠ lb := by have := rs_vb hs (by omega); omega
  have r3 := r2.mono x3
  have hok := hg.ok
  generalize hl0 : news (madeM ns) = l0 at *
  generalize madeM ns = cs at *
  simp (disch := first | assumption | omega | (simp only [push_n, set_n]; done) | (simp only [push_n, set_n]; omega) | fail) only [go_sem, ↓reduceIte, Nat.reduceEqDiff, Nat.reduceAdd, Nat.reduceMul, Int.reduceToNat, Int.reduceAdd, Int.reduceTDiv, Nat.reduceLeDiff]
  refine f37_spec b3 r3 hok (by omega) fun v5 h5 x5 o5 => ?_
  have n_x5 := Ext.n_le x5; try simp only [push_n, set_n] at n_x5
  have l3 := i3.ln
  have hv5 : vb v5 ≠ lb := by
    rcases o5.is with ⟨e, _⟩ | ⟨b, e, _, e2, _⟩
    · rw [e]; exact Ne.symm hlb0
    · rw [e]; show b ≠ lb; omega
  have r5 := o5.rs
  have rs5 : RS h5 1 sv (ss.map u16C) := (((hs.mono x1).mono x2).mono x3).mono x5
  have i5 := i3.ext x5
  have b5 := b3.ext x5
  have hbl : (blocksM cs).length ≤ 8 * cs.length := blocksFrom_length (i := 0) hok
  have xn5 := i5.xn
  have ln5 := i5.ln
  have l5 : ∀ H, lenE H v5 = some (.int .i64 (blocksM cs).length, H) := fun H => by have := r5.len (h' := H); simpa using this
  clear o5
  simp (disch := first | assumption | omega | (simp only [push_n, set_n]; done) | (simp only [push_n, set_n]; omega) | fail) only [go_sem, ↓reduceIte, Nat.reduceEqDiff, Nat.reduceAdd, Nat.reduceMul, Int.reduceToNat, Int.reduceAdd, Int.reduceTDiv, Nat.reduceLeDiff]
  refine WE_loop (fun m a h' => ∃ (i K : Nat) (l : List One), m = ss.length - i ∧ i ≤ ss.length ∧ K ≤ i ∧ a.get 1 = sv ∧ a.get 5 = .bool true ∧ a.get 7 = .pointer (some ⟨xb, 0, none⟩) ∧ a.get 8 = v5 ∧ a.get 9 = .int .i64 K ∧ a.get 10 = .int .i64 i ∧ a.marks = [] ∧
    Upd h5 h' lb ∧ IX h' xb lb l ∧ Calm l ∧ rightAux 0 (l.map One.c) = true ∧ l.length = cs.length ∧ (blocksM (l.map One.c)).length = (blocksM cs).length + K ∧ ∀ b ∈ blocksM cs, b ∈ blocksM (l.map One.c)) ?_ (m := ss.length)
    ⟨0, 0, l0, by omega, by omega, by omega, by simp (disch := first | assumption | omega | (simp only [push_n, set_n]; done) | (simp only [push_n, set_n]; omega) | fail) only [go_sem, ↓reduceIte, Nat.reduceEqDiff, Nat.reduceAdd, Nat.reduceMul, Int.reduceToNat, Int.reduceAdd, Int.reduceTDiv, Nat.reduceLeDiff], by simp (disch := first | assumption | omega | (simp only [push_n, set_n]; done) | (simp only [push_n, set_n]; omega) | fail) only [go_sem, ↓reduceIte, Nat.reduceEqDiff, Nat.reduceAdd, Nat.reduceMul, Int.reduceToNat, Int.reduceAdd, Int.reduceTDiv, Nat.reduceLeDiff], by simp (disch := first | assumption | omega | (simp only [push_n, set_n]; done) | (simp only [push_n, set_n]; omega) | fail) only [go_sem, ↓reduceIte, Nat.reduceEqDiff, Nat.reduceAdd, Nat.reduceMul, Int.reduceToNat, Int.reduceAdd, Int.reduceTDiv, Nat.reduceLeDiff], by simp (disch := first | assumption | omega | (simp only [push_n, set_n]; done) | (simp only [push_n, set_n]; omega) | fail) only [go_sem, ↓reduceIte, Nat.reduceEqDiff, Nat.reduceAdd, Nat.reduceMul, Int.reduceToNat, Int.reduceAdd, Int.reduceTDiv, Nat.reduceLeDiff], by simp (disch := first | assumption | omega | (simp only [push_n, set_n]; done) | (simp only [push_n, set_n]; omega) | fail) only [go_sem, ↓reduceIte, Nat.reduceEqDiff, Nat.reduceAdd, Nat.reduceMul, Int.reduceToNat, Int.reduceAdd, Int.reduceTDiv, Nat.reduceLeDiff], by simp (disch := first | assumption | omega | (simp only [push_n, set_n]; done) | (simp only [push_n, set_n]; omega) | fail) only [go_sem, ↓reduceIte, Nat.reduceEqDiff, Nat.reduceAdd, Nat.reduceMul, Int.reduceToNat, Int.reduceAdd, Int.reduceTDiv, Nat.reduceLeDiff], rfl, Ext.upd (Ext.refl _), i5, c3, by rw [hnc]; exact hrt, by omega, by rw [hnc]; rfl, by rw [hnc]; exact fun _ h => h⟩
  rintro m a h6 ⟨i, K, l, rfl, hil, hKi, a1, a5, a7, a8, a9, a10, am, u6, i6, c6, rt6, hl6, hcnt, hsub⟩
  have n6 := u6.1
  by_cases hin : i < ss.length
  · obtain ⟨s, hsi⟩ : ∃ s, ss[i]? = some s := ⟨_, List.getElem?_eq_getElem hin⟩
    have hs16 := s16 s (List.mem_of_getElem? hsi)
    have rs6 := rs_upd rs5 u6 hsvl
    obtain ⟨b, cc, e, ro, hv, hgb, hbn⟩ := rs6.atM hin
    have hl := getAt_map1 (f := u16C) (fun _ => rfl) hsi
    have e7 : (s : Int).tmod 200 = ((s % 200 : Nat) : Int) := by rw [Int.tmod_eq_emod_of_nonneg (by omega)]; omega
    have e1 := a1
    rw [hv] at a1
    simp (disch := first | assumption | omega | (simp only [push_n, set_n]; done) | (simp only [push_n, set_n]; omega) | fail) only [go_sem, ↓reduceIte, Nat.reduceEqDiff, Nat.reduceAdd, Nat.reduceMul, Int.reduceToNat, Int.reduceAdd, Int.reduceTDiv, Nat.reduceLeDiff, ls, a1, a5, a7, a8, a9, a10, am, hgb, hl, u16C, e7]
    have hn7 : s % 200 ≤ 4096 := by omega
    have htk := take_step ⟨c6.ok, rt6⟩ hn7
    have hkp := kept_step c6 rt6 hn7
    generalize s % 200 = n at *
    refine f12_spec (n := n) (l := l) (xb := xb) (lb := lb) (blocks.upd b5 u6 hlb0) i6 (by omega) hn7 ?_
    intro h7 u7 i7
    have n7 := u7.1
    generalize takeM l n = r at *
    obtain ⟨⟨pc, pi, pk, pm, pf⟩, er, l'⟩ := r
    simp only at htk hkp i7
    have u57 : Upd h5 h7 lb := Upd.trans u6 u7
    have xn7 := i7.xn
    have ln7 := i7.ln
    rcases hkp with ⟨rfl, rfl⟩ | ⟨rfl, l2, im, mm, w, kp⟩
    · simp (disch := first | assumption | omega | (simp only [push_n, set_n]; done) | (simp only [push_n, set_n]; omega) | fail) only [go_sem, ↓reduceIte, Nat.reduceEqDiff, Nat.reduceAdd, Nat.reduceMul, Int.reduceToNat, Int.reduceAdd, Int.reduceTDiv, Nat.reduceLeDiff, a1, a5, a7, a8, a9, a10, am, Pl.cells]
      exact ⟨_, Nat.sub_lt_sub_left hin (Nat.lt_succ_self i), i + 1, K, l', rfl, by omega, by omega, hv.symm, rfl, rfl, Upd.push u57, IX.ext i7 (by repeat (first | assumption | exact Ext.refl _ | refine Ext.push ?_ | refine Ext.set ?_ (by omega) | refine Ext.trans ?_ (by assumption))), c6, rt6, hl6, hcnt, hsub⟩
    · obtain ⟨im', mm', tk⟩ := (htk.resolve_left (fun e => by cases e.1)).2
      have wf7 := tk.wf
      have hl7 := tk.len
      have hal : blocksM (l.map One.c) = blocksM (tableM l') := by
        rw [← calm_table c6]; exact tk.alike.blocks (i := 0)
      obtain ⟨kc, ki, kk, cl2, rt2, len2, ins2, big2⟩ := kp
      simp only at kc ki
      subst kc ki
      have hil2 := ins2.length
      have hin2 := ins2.mem (y := ⟨im, mm, w⟩)
      have hok2 : ∀ c ∈ l2.map One.c, c.ok := fun c hc => by obtain ⟨o, ho, rfl⟩ := List.mem_map.1 hc; exact cl2.ok o ho
      obtain ⟨hd2, hk2⟩ := calm_drop cl2 ⟨im, mm, pk, pm, pf⟩
      simp (disch := first | assumption | omega | (simp only [push_n, set_n]; done) | (simp only [push_n, set_n]; omega) | fail) only [go_sem, ↓reduceIte, Nat.reduceEqDiff, Nat.reduceAdd, Nat.reduceMul, Int.reduceToNat, Int.reduceAdd, Int.reduceTDiv, Nat.reduceLeDiff, a1, a5, a7, a8, a9, a10, am, Pl.cells]
      refine f16_spec (l := l') (xb := xb) (lb := lb) ((blocks.upd b5 u57 hlb0).ext (by repeat (first | assumption | exact Ext.refl _ | refine Ext.push ?_ | refine Ext.set ?_ (by omega) | refine Ext.trans ?_ (by assumption)))) (IX.ext i7 (by repeat (first | assumption | exact Ext.refl _ | refine Ext.push ?_ | refine Ext.set ?_ (by omega) | refine Ext.trans ?_ (by assumption)))) (by omega) wf7.ok fun v9 h9 x9 o9 => ?_
      have n_x9 := Ext.n_le x9; try simp only [push_n, set_n] at n_x9
      have x79 : Ext h7 h9 := Ext.trans (Ext.push (Ext.refl _)) x9
      simp (disch := first | assumption | omega | (simp only [push_n, set_n]; done) | (simp only [push_n, set_n]; omega) | fail) only [go_sem, ↓reduceIte, Nat.reduceEqDiff, Nat.reduceAdd, Nat.reduceMul, Int.reduceToNat, Int.reduceAdd, Int.reduceTDiv, Nat.reduceLeDiff, a1, a5, a7, a8, a9, a10, am]
      refine f37_spec (cs := tableM l') ((blocks.upd b5 u57 hlb0).ext x79) o9.rs wf7.table (by rw [table_length]; omega) fun v10 h10 x10 o10 => ?_
      have n_x10 := Ext.n_le x10; try simp only [push_n, set_n] at n_x10
      rw [← hal] at o10
      have l10 : ∀ H, lenE H v10 = some (.int .i64 (blocksM (l.map One.c)).length, H) := fun H => by have := o10.rs.len (h' := H); simpa using this
      have x710 : Ext h7 h10 := x79.trans x10
      have gp : h10.get h7.n = .cells [.int .i64 im, .int .i64 mm, .int .i64 pk, .int .i64 pm, .bool pf] 30 false := by
        rw [x10.2 _ (by omega), x9.2 _ (by (first | omega | (simp only [push_n, set_n]; done) | (simp only [push_n, set_n]; omega)))]; exact get_push_eq rfl
      simp (disch := first | assumption | omega | (simp only [push_n, set_n]; done) | (simp only [push_n, set_n]; omega) | fail) only [go_sem, ↓reduceIte, Nat.reduceEqDiff, Nat.reduceAdd, Nat.reduceMul, Int.reduceToNat, Int.reduceAdd, Int.reduceTDiv, Nat.reduceLeDiff, a1, a5, a7, a8, a9, a10, am, gp]
      refine f13_spec (p := ⟨im, mm, pk, pm, pf⟩) (l := l') (xb := xb) (lb := lb) ((blocks.upd b5 u57 hlb0).ext x710) (IX.ext i7 x710) (by omega) ?_
      rw [kk]
      intro h11 u11 i11
      have n11 := u11.1
      change IX h11 xb lb l2 at i11
      have u511 : Upd h5 h11 lb := Upd.trans (Upd.trans u57 (Ext.upd x710)) u11
      simp (disch := first | assumption | omega | (simp only [push_n, set_n]; done) | (simp only [push_n, set_n]; omega) | fail) only [go_sem, ↓reduceIte, Nat.reduceEqDiff, Nat.reduceAdd, Nat.reduceMul, Int.reduceToNat, Int.reduceAdd, Int.reduceTDiv, Nat.reduceLeDiff, a1, a5, a7, a8, a9, a10, am, gp, okM, u11.2]
      refine f13_spec (p := ⟨im, mm, pk, pm, pf⟩) (l := l2) (xb := xb) (lb := lb) (blocks.upd b5 u511 hlb0) i11 (by omega) ?_
      rw [hk2]
      intro h12 u12 i12
      have n12 := u12.1
      change IX h12 xb lb l2 at i12
      have u512 : Upd h5 h12 lb := Upd.trans u511 u12
      simp (disch := first | assumption | omega | (simp only [push_n, set_n]; done) | (simp only [push_n, set_n]; omega) | fail) only [go_sem, ↓reduceIte, Nat.reduceEqDiff, Nat.reduceAdd, Nat.reduceMul, Int.reduceToNat, Int.reduceAdd, Int.reduceTDiv, Nat.reduceLeDiff, a1, a5, a7, a8, a9, a10, am, gp, okM, u11.2, u12.2]
      refine f24_spec (p := ⟨im, mm, pk, pm, pf⟩) (l := l2) (xb := xb) (lb := lb) (blocks.upd b5 u512 hlb0) i12 (by omega) cl2.fits ?_
      rw [hd2]
      intro h13 u13 i13
      have n13 := u13.1
      change IX h13 xb lb l2 at i13
      have u513 : Upd h5 h13 lb := Upd.trans u512 u13
      have gp13 : h13.get h7.n = .cells [.int .i64 im, .int .i64 mm, .int .i64 pk, .int .i64 pm, .bool pf] 30 false := by
        rw [u13.2 _ (by omega) (by omega), u12.2 _ (by omega) (by omega), u11.2 _ (by omega) (by omega)]; exact gp
      simp (disch := first | assumption | omega | (simp only [push_n, set_n]; done) | (simp only [push_n, set_n]; omega) | fail) only [go_sem, ↓reduceIte, Nat.reduceEqDiff, Nat.reduceAdd, Nat.reduceMul, Int.reduceToNat, Int.reduceAdd, Int.reduceTDiv, Nat.reduceLeDiff, a1, a5, a7, a8, a9, a10, am, okM]
      refine f16_spec (l := l2) (xb := xb) (lb := lb) (blocks.upd b5 u513 hlb0) i13 (by omega) cl2.ok fun v14 h14 x14 o14 => ?_
      have n_x14 := Ext.n_le x14; try simp only [push_n, set_n] at n_x14
      rw [calm_table cl2] at o14
      simp (disch := first | assumption | omega | (simp only [push_n, set_n]; done) | (simp only [push_n, set_n]; omega) | fail) only [go_sem, ↓reduceIte, Nat.reduceEqDiff, Nat.reduceAdd, Nat.reduceMul, Int.reduceToNat, Int.reduceAdd, Int.reduceTDiv, Nat.reduceLeDiff, a1, a5, a7, a8, a9, a10, am]
      refine f37_spec (cs := l2.map One.c) ((blocks.upd b5 u513 hlb0).ext x14) o14.rs hok2 (by rw [List.length_map]; omega) fun v15 h15 x15 o15 => ?_
      have n_x15 := Ext.n_le x15; try simp only [push_n, set_n] at n_x15
      have l15 : ∀ H, lenE H v15 = some (.int .i64 (blocksM (l2.map One.c)).length, H) := fun H => by have := o15.rs.len (h' := H); simpa using this
      have x1315 := x14.trans x15
      simp (disch := first | assumption | omega | (simp only [push_n, set_n]; done) | (simp only [push_n, set_n]; omega) | fail) only [go_sem, ↓reduceIte, Nat.reduceEqDiff, Nat.reduceAdd, Nat.reduceMul, Int.reduceToNat, Int.reduceAdd, Int.reduceTDiv, Nat.reduceLeDiff, a1, a5, a7, a8, a9, a10, am, l10, l15, hil2]
      refine f16_spec (l := l2) (xb := xb) (lb := lb) ((blocks.upd b5 u513 hlb0).ext x1315) (IX.ext i13 x1315) (by omega) cl2.ok fun v16 h16' x16 o16 => ?_
      have n_x16 := Ext.n_le x16; try simp only [push_n, set_n] at n_x16
      rw [calm_table cl2] at o16
      have x1316 := x1315.trans x16
      simp (disch := first | assumption | omega | (simp only [push_n, set_n]; done) | (simp only [push_n, set_n]; omega) | fail) only [go_sem, ↓reduceIte, Nat.reduceEqDiff, Nat.reduceAdd, Nat.reduceMul, Int.reduceToNat, Int.reduceAdd, Int.reduceTDiv, Nat.reduceLeDiff, a1, a5, a7, a8, a9, a10, am]
      refine f39_spec (cs := l2.map One.c) ((blocks.upd b5 u513 hlb0).ext x1316) o16.rs hok2 (by rw [List.length_map]; omega) fun h17 x17 => ?_
      have n_x17 := Ext.n_le x17; try simp only [push_n, set_n] at n_x17
      rw [rt2]
      have x1317 := x1316.trans x17
      have gp17 := (x1317.2 h7.n (by omega)).trans gp13
      have w15 := (o15.ext (x16.trans x17)).ixv
      have g15 := (o15.ext (x16.trans x17)).cells
      rw [List.length_map] at w15
      generalize vb v15 = D15 at *
      subst w15
      have hbk : (blocksM (l2.map One.c)).length ≤ 1000 := by omega
      simp (disch := first | assumption | omega | (simp only [push_n, set_n]; done) | (simp only [push_n, set_n]; omega) | fail) only [go_sem, ↓reduceIte, Nat.reduceEqDiff, Nat.reduceAdd, Nat.reduceMul, Int.reduceToNat, Int.reduceAdd, Int.reduceTDiv, Nat.reduceLeDiff, a1, a5, a7, a8, a9, a10, am]
      have hkeyt : (blocksM (l2.map One.c)).any (fun b => decide (b.chunk = im ∧ b.index = mm)) = true := by
        rw [List.any_eq_true]
        exact ⟨_, hin2.2 (.inl rfl), by simp⟩
      have hsub2 : ∀ b ∈ blocksM cs, b ∈ blocksM (l2.map One.c) := fun b hb => (ins2.mem (y := b)).2 (.inr (hsub b hb))
      have u517 : Upd h5 h17 lb := Upd.trans u513 (Ext.upd x1317)
      have i17 := IX.ext i13 x1317
      generalize hbs : blocksM (l2.map One.c) = bs at *
      have C : True := trivial
      refine WE_loop (fun m a' h' => ∃ k : Nat, m = bs.length - k ∧ k ≤ bs.length ∧ a'.get 1 = a.get 1 ∧ a'.get 5 = .bool true ∧ a'.get 7 = .pointer (some ⟨xb, 0, none⟩) ∧ a'.get 8 = v5 ∧ a'.get 9 = .int .i64 (K + 1 : Nat) ∧ a'.get 10 = .int .i64 i ∧ a'.get 11 = .int .i64 n ∧
        a'.get 12 = .pointer (some ⟨h7.n, 0, none⟩) ∧ a'.get 15 = ixv D15 bs.length ∧ a'.get 16 = .bool ((bs.take k).any (fun b => decide (b.chunk = im ∧ b.index = mm))) ∧ a'.get 17 = .int .i64 k ∧ a'.marks = [] ∧ h' = h17) ?_ (m := bs.length)
        ⟨0, by omega, by omega, by simp (disch := first | assumption | omega | (simp only [push_n, set_n]; done) | (simp only [push_n, set_n]; omega) | fail) only [go_sem, ↓reduceIte, Nat.reduceEqDiff, Nat.reduceAdd, Nat.reduceMul, Int.reduceToNat, Int.reduceAdd, Int.reduceTDiv, Nat.reduceLeDiff], by simp (disch := first | assumption | omega | (simp only [push_n, set_n]; done) | (simp only [push_n, set_n]; omega) | fail) only [go_sem, ↓reduceIte, Nat.reduceEqDiff, Nat.reduceAdd, Nat.reduceMul, Int.reduceToNat, Int.reduceAdd, Int.reduceTDiv, Nat.reduceLeDiff, a5], by simp (disch := first | assumption | omega | (simp only [push_n, set_n]; done) | (simp only [push_n, set_n]; omega) | fail) only [go_sem, ↓reduceIte, Nat.reduceEqDiff, Nat.reduceAdd, Nat.reduceMul, Int.reduceToNat, Int.reduceAdd, Int.reduceTDiv, Nat.reduceLeDiff, a7], by simp (disch := first | assumption | omega | (simp only [push_n, set_n]; done) | (simp only [push_n, set_n]; omega) | fail) only [go_sem, ↓reduceIte, Nat.reduceEqDiff, Nat.reduceAdd, Nat.reduceMul, Int.reduceToNat, Int.reduceAdd, Int.reduceTDiv, Nat.reduceLeDiff, a8], by simp (disch := first | assumption | omega | (simp only [push_n, set_n]; done) | (simp only [push_n, set_n]; omega) | fail) only [go_sem, ↓reduceIte, Nat.reduceEqDiff, Nat.reduceAdd, Nat.reduceMul, Int.reduceToNat, Int.reduceAdd, Int.reduceTDiv, Nat.reduceLeDiff]; congr 1, by simp (disch := first | assumption | omega | (simp only [push_n, set_n]; done) | (simp only [push_n, set_n]; omega) | fail) only [go_sem, ↓reduceIte, Nat.reduceEqDiff, Nat.reduceAdd, Nat.reduceMul, Int.reduceToNat, Int.reduceAdd, Int.reduceTDiv, Nat.reduceLeDiff, a10], by simp (disch := first | assumption | omega | (simp only [push_n, set_n]; done) | (simp only [push_n, set_n]; omega) | fail) only [go_sem, ↓reduceIte, Nat.reduceEqDiff, Nat.reduceAdd, Nat.reduceMul, Int.reduceToNat, Int.reduceAdd, Int.reduceTDiv, Nat.reduceLeDiff], by simp (disch := first | assumption | omega | (simp only [push_n, set_n]; done) | (simp only [push_n, set_n]; omega) | fail) only [go_sem, ↓reduceIte, Nat.reduceEqDiff, Nat.reduceAdd, Nat.reduceMul, Int.reduceToNat, Int.reduceAdd, Int.reduceTDiv, Nat.reduceLeDiff], by simp (disch := first | assumption | omega | (simp only [push_n, set_n]; done) | (simp only [push_n, set_n]; omega) | fail) only [go_sem, ↓reduceIte, Nat.reduceEqDiff, Nat.reduceAdd, Nat.reduceMul, Int.reduceToNat, Int.reduceAdd, Int.reduceTDiv, Nat.reduceLeDiff], by simp (disch := first | assumption | omega | (simp only [push_n, set_n]; done) | (simp only [push_n, set_n]; omega) | fail) only [go_sem, ↓reduceIte, Nat.reduceEqDiff, Nat.reduceAdd, Nat.reduceMul, Int.reduceToNat, Int.reduceAdd, Int.reduceTDiv, Nat.reduceLeDiff]; rfl, by simp (disch := first | assumption | omega | (simp only [push_n, set_n]; done) | (simp only [push_n, set_n]; omega) | fail) only [go_sem, ↓reduceIte, Nat.reduceEqDiff, Nat.reduceAdd, Nat.reduceMul, Int.reduceToNat, Int.reduceAdd, Int.reduceTDiv, Nat.reduceLeDiff], rfl, rfl⟩
      rintro m a2 h18 ⟨k, rfl, hkl, c1, c5, c7, c8, c9, c10, c11, c12, c15, c16, c17, cm, rfl⟩
      rw [a1] at c1
      by_cases hkn : k < bs.length
      · obtain ⟨x, hx⟩ : ∃ x, bs[k]? = some x := ⟨_, List.getElem?_eq_getElem hkn⟩
        have hbsne : bs ≠ [] := by intro e; subst e; simp at hkn
        have gD := g15 (by simpa using hbsne)
        have hany := any_take (p := fun b : Bl => decide (b.chunk = im ∧ b.index = mm)) hx
        have hp0 := getAt_part (bs.map Bl.cells) 3 (fun y hy => by obtain ⟨z, _, rfl⟩ := List.mem_map.1 hy; rfl) k 0 1 x.cells (by rw [List.getElem?_map, hx]; rfl) (by decide)
        have hp1 := getAt_part (bs.map Bl.cells) 3 (fun y hy => by obtain ⟨z, _, rfl⟩ := List.mem_map.1 hy; rfl) k 1 1 x.cells (by rw [List.getElem?_map, hx]; rfl) (by decide)
        have hp2 := getAt_part (bs.map Bl.cells) 3 (fun y hy => by obtain ⟨z, _, rfl⟩ := List.mem_map.1 hy; rfl) k 2 1 x.cells (by rw [List.getElem?_map, hx]; rfl) (by decide)
        rw [Nat.add_zero] at hp0
        have hbig := big2 x (List.mem_of_getElem? hx)
        by_cases k1 : x.chunk = im
        · by_cases k2 : x.index = mm
          · have hb3 := hbig k1 k2
            have hkx : decide (x.chunk = im ∧ x.index = mm) = true := decide_eq_true ⟨k1, k2⟩
            simp (disch := first | assumption | omega | (simp only [push_n, set_n]; done) | (simp only [push_n, set_n]; omega) | fail) only [go_sem, ↓reduceIte, Nat.reduceEqDiff, Nat.reduceAdd, Nat.reduceMul, Int.reduceToNat, Int.reduceAdd, Int.reduceTDiv, Nat.reduceLeDiff, c1, c5, c7, c8, c9, c10, c11, c12, c15, c16, c17, cm, gD, gp17, hp0, hp1, hp2, Bl.cells]
            exact ⟨_, Nat.sub_lt_sub_left hkn (Nat.lt_succ_self k), k + 1, rfl, by omega, a1.symm, by rw [hany, hkx, Bool.or_true], rfl⟩
          · have hkx : decide (x.chunk = im ∧ x.index = mm) = false := decide_eq_false (fun e => k2 e.2)
            simp (disch := first | assumption | omega | (simp only [push_n, set_n]; done) | (simp only [push_n, set_n]; omega) | fail) only [go_sem, ↓reduceIte, Nat.reduceEqDiff, Nat.reduceAdd, Nat.reduceMul, Int.reduceToNat, Int.reduceAdd, Int.reduceTDiv, Nat.reduceLeDiff, c1, c5, c7, c8, c9, c10, c11, c12, c15, c16, c17, cm, gD, gp17, hp0, hp1, hp2, Bl.cells]
            exact ⟨_, Nat.sub_lt_sub_left hkn (Nat.lt_succ_self k), k + 1, rfl, by omega, a1.symm, by rw [hany, hkx, Bool.or_false], rfl⟩
        · have hkx : decide (x.chunk = im ∧ x.index = mm) = false := decide_eq_false (fun e => k1 e.1)
          simp (disch := first | assumption | omega | (simp only [push_n, set_n]; done) | (simp only [push_n, set_n]; omega) | fail) only [go_sem, ↓reduceIte, Nat.reduceEqDiff, Nat.reduceAdd, Nat.reduceMul, Int.reduceToNat, Int.reduceAdd, Int.reduceTDiv, Nat.reduceLeDiff, c1, c5, c7, c8, c9, c10, c11, c12, c15, c16, c17, cm, gD, gp17, hp0, hp1, hp2, Bl.cells]
          exact ⟨_, Nat.sub_lt_sub_left hkn (Nat.lt_succ_self k), k + 1, rfl, by omega, a1.symm, by rw [hany, hkx, Bool.or_false], rfl⟩
      · obtain rfl : k = bs.length := by omega
        rw [List.take_length, hkeyt] at c16
        simp (disch := first | assumption | omega | (simp only [push_n, set_n]; done) | (simp only [push_n, set_n]; omega) | fail) only [go_sem, ↓reduceIte, Nat.reduceEqDiff, Nat.reduceAdd, Nat.reduceMul, Int.reduceToNat, Int.reduceAdd, Int.reduceTDiv, Nat.reduceLeDiff, c1, c5, c7, c8, c9, c10, c11, c12, c15, c16, c17, cm]
        exact ⟨_, Nat.sub_lt_sub_left hin (Nat.lt_succ_self i), i + 1, K + 1, l2, rfl, by omega, by omega, hv.symm, rfl, rfl, u517, i17, cl2, rt2, by omega, by rw [hbs]; omega, by rw [hbs]; exact hsub2⟩
  · obtain rfl : i = ss.length := by omega
    simp (disch := first | assumption | omega | (simp only [push_n, set_n]; done) | (simp only [push_n, set_n]; omega) | fail) only [go_sem, ↓reduceIte, Nat.reduceEqDiff, Nat.reduceAdd, Nat.reduceMul, Int.reduceToNat, Int.reduceAdd, Int.reduceTDiv, Nat.reduceLeDiff, ls, a1, a5, a7, a8, a9, a10, am]
    have b6 := blocks.upd b5 u6 hlb0
    have hokl : ∀ c ∈ l.map One.c, c.ok := fun c hc => by obtain ⟨o, ho, rfl⟩ := List.mem_map.1 hc; exact c6.ok o ho
    refine f16_spec (l := l) (xb := xb) (lb := lb) b6 i6 (by omega) c6.ok fun v7 h7 x7 o7 => ?_
    have n_x7 := Ext.n_le x7; try simp only [push_n, set_n] at n_x7
    rw [calm_table c6] at o7
    simp (disch := first | assumption | omega | (simp only [push_n, set_n]; done) | (simp only [push_n, set_n]; omega) | fail) only [go_sem, ↓reduceIte, Nat.reduceEqDiff, Nat.reduceAdd, Nat.reduceMul, Int.reduceToNat, Int.reduceAdd, Int.reduceTDiv, Nat.reduceLeDiff, a1, a5, a7, a8, a9, a10, am]
    refine f37_spec (cs := l.map One.c) (b6.ext x7) o7.rs hokl (by rw [List.length_map]; omega) fun v8 h8 x8 o8 => ?_
    have n_x8 := Ext.n_le x8; try simp only [push_n, set_n] at n_x8
    have u58 : Upd h5 h8 lb := Upd.trans u6 (Ext.upd (x7.trans x8))
    have r8 := rs_upd r5 u58 hv5
    have w8 := o8.ixv
    have g8 := o8.cells
    rw [List.length_map] at w8
    generalize vb v8 = D8 at *
    subst w8
    generalize blocksM (l.map One.c) = now at *
    generalize blocksM cs = was at *
    simp (disch := first | assumption | omega | (simp only [push_n, set_n]; done) | (simp only [push_n, set_n]; omega) | fail) only [go_sem, ↓reduceIte, Nat.reduceEqDiff, Nat.reduceAdd, Nat.reduceMul, Int.reduceToNat, Int.reduceAdd, Int.reduceTDiv, Nat.reduceLeDiff, a1, a5, a7, a8, a9, a10, am]
    refine WE_loop (fun m a' h' => ∃ k : Nat, m = was.length - k ∧ k ≤ was.length ∧ a'.get 5 = .bool true ∧ a'.get 8 = v5 ∧ a'.get 9 = .int .i64 K ∧ a'.get 18 = ixv D8 now.length ∧ a'.get 19 = .int .i64 k ∧ a'.marks = [] ∧ h' = h8) ?_ (m := was.length)
      ⟨0, by omega, by omega, by simp (disch := first | assumption | omega | (simp only [push_n, set_n]; done) | (simp only [push_n, set_n]; omega) | fail) only [go_sem, ↓reduceIte, Nat.reduceEqDiff, Nat.reduceAdd, Nat.reduceMul, Int.reduceToNat, Int.reduceAdd, Int.reduceTDiv, Nat.reduceLeDiff, a5], by simp (disch := first | assumption | omega | (simp only [push_n, set_n]; done) | (simp only [push_n, set_n]; omega) | fail) only [go_sem, ↓reduceIte, Nat.reduceEqDiff, Nat.reduceAdd, Nat.reduceMul, Int.reduceToNat, Int.reduceAdd, Int.reduceTDiv, Nat.reduceLeDiff, a8], by simp (disch := first | assumption | omega | (simp only [push_n, set_n]; done) | (simp only [push_n, set_n]; omega) | fail) only [go_sem, ↓reduceIte, Nat.reduceEqDiff, Nat.reduceAdd, Nat.reduceMul, Int.reduceToNat, Int.reduceAdd, Int.reduceTDiv, Nat.reduceLeDiff, a9], by simp (disch := first | assumption | omega | (simp only [push_n, set_n]; done) | (simp only [push_n, set_n]; omega) | fail) only [go_sem, ↓reduceIte, Nat.reduceEqDiff, Nat.reduceAdd, Nat.reduceMul, Int.reduceToNat, Int.reduceAdd, Int.reduceTDiv, Nat.reduceLeDiff], by simp (disch := first | assumption | omega | (simp only [push_n, set_n]; done) | (simp only [push_n, set_n]; omega) | fail) only [go_sem, ↓reduceIte, Nat.reduceEqDiff, Nat.reduceAdd, Nat.reduceMul, Int.reduceToNat, Int.reduceAdd, Int.reduceTDiv, Nat.reduceLeDiff], rfl, rfl⟩
    clear a1 a5 a7 a8 a9 a10 am
    rintro m a2 h9 ⟨k, rfl, hkl, a5, a8, a9, a18, a19, am, rfl⟩
    by_cases hkn : k < was.length
    · obtain ⟨x, hx⟩ : ∃ x, was[k]? = some x := ⟨_, List.getElem?_eq_getElem hkn⟩
      obtain ⟨bb, cc, e, ro, hv, hgb, hbn⟩ := r8.atM hkn
      have hlx := getAt_map (f := Bl.cells) (s := 3) (fun _ => rfl) hx
      have hxn := hsub x (List.mem_of_getElem? hx)
      have e8 := a8
      rw [hv] at a8
      simp (disch := first | assumption | omega | (simp only [push_n, set_n]; done) | (simp only [push_n, set_n]; omega) | fail) only [go_sem, ↓reduceIte, Nat.reduceEqDiff, Nat.reduceAdd, Nat.reduceMul, Int.reduceToNat, Int.reduceAdd, Int.reduceTDiv, Nat.reduceLeDiff, l5, a5, a8, a9, a18, a19, am]
      refine WE_loop (fun m a' h' => ∃ j : Nat, m = now.length - j ∧ j ≤ now.length ∧ a'.get 5 = .bool true ∧ a'.get 8 = .slice (some ⟨bb, 0, none⟩) was.length cc ∧ a'.get 9 = .int .i64 K ∧ a'.get 18 = ixv D8 now.length ∧ a'.get 19 = .int .i64 k ∧ a'.get 20 = .bool ((now.take j).any fun y => decide (y = x)) ∧ a'.get 21 = .int .i64 j ∧ a'.marks = [] ∧ h' = h9) ?_ (m := now.length)
        ⟨0, by omega, by omega, by simp (disch := first | assumption | omega | (simp only [push_n, set_n]; done) | (simp only [push_n, set_n]; omega) | fail) only [go_sem, ↓reduceIte, Nat.reduceEqDiff, Nat.reduceAdd, Nat.reduceMul, Int.reduceToNat, Int.reduceAdd, Int.reduceTDiv, Nat.reduceLeDiff, a5], by simp (disch := first | assumption | omega | (simp only [push_n, set_n]; done) | (simp only [push_n, set_n]; omega) | fail) only [go_sem, ↓reduceIte, Nat.reduceEqDiff, Nat.reduceAdd, Nat.reduceMul, Int.reduceToNat, Int.reduceAdd, Int.reduceTDiv, Nat.reduceLeDiff, a8], by simp (disch := first | assumption | omega | (simp only [push_n, set_n]; done) | (simp only [push_n, set_n]; omega) | fail) only [go_sem, ↓reduceIte, Nat.reduceEqDiff, Nat.reduceAdd, Nat.reduceMul, Int.reduceToNat, Int.reduceAdd, Int.reduceTDiv, Nat.reduceLeDiff, a9], by simp (disch := first | assumption | omega | (simp only [push_n, set_n]; done) | (simp only [push_n, set_n]; omega) | fail) only [go_sem, ↓reduceIte, Nat.reduceEqDiff, Nat.reduceAdd, Nat.reduceMul, Int.reduceToNat, Int.reduceAdd, Int.reduceTDiv, Nat.reduceLeDiff, a18], by simp (disch := first | assumption | omega | (simp only [push_n, set_n]; done) | (simp only [push_n, set_n]; omega) | fail) only [go_sem, ↓reduceIte, Nat.reduceEqDiff, Nat.reduceAdd, Nat.reduceMul, Int.reduceToNat, Int.reduceAdd, Int.reduceTDiv, Nat.reduceLeDiff, a19], by simp (disch := first | assumption | omega | (simp only [push_n, set_n]; done) | (simp only [push_n, set_n]; omega) | fail) only [go_sem, ↓reduceIte, Nat.reduceEqDiff, Nat.reduceAdd, Nat.reduceMul, Int.reduceToNat, Int.reduceAdd, Int.reduceTDiv, Nat.reduceLeDiff]; rfl, by simp (disch := first | assumption | omega | (simp only [push_n, set_n]; done) | (simp only [push_n, set_n]; omega) | fail) only [go_sem, ↓reduceIte, Nat.reduceEqDiff, Nat.reduceAdd, Nat.reduceMul, Int.reduceToNat, Int.reduceAdd, Int.reduceTDiv, Nat.reduceLeDiff], rfl, rfl⟩
      clear a5 a8 a9 a18 a19 am
      rintro m a3 h10 ⟨j, rfl, hjl, a5, a8, a9, a18, a19, a20, a21, am, rfl⟩
      by_cases hjn : j < now.length
      · obtain ⟨y, hy⟩ : ∃ y, now[j]? = some y := ⟨_, List.getElem?_eq_getElem hjn⟩
        have hne : now ≠ [] := by intro e; subst e; simp at hjn
        have gD := g8 (by simpa using hne)
        have hly := getAt_map (f := Bl.cells) (s := 3) (fun _ => rfl) hy
        have hany := any_take (p := fun y : Bl => decide (y = x)) hy
        have hsq := bl_seq y x
        cases hb20 : (now.take j).any fun y => decide (y = x) with
        | true =>
          rw [hb20] at a20 hany
          simp (disch := first | assumption | omega | (simp only [push_n, set_n]; done) | (simp only [push_n, set_n]; omega) | fail) only [go_sem, ↓reduceIte, Nat.reduceEqDiff, Nat.reduceAdd, Nat.reduceMul, Int.reduceToNat, Int.reduceAdd, Int.reduceTDiv, Nat.reduceLeDiff, a5, a8, a9, a18, a19, a20, a21, am]
          exact ⟨_, Nat.sub_lt_sub_left hjn (Nat.lt_succ_self j), j + 1, rfl, by omega, by rw [hany, Bool.true_or], rfl⟩
        | false =>
          rw [hb20] at a20 hany
          simp (disch := first | assumption | omega | (simp only [push_n, set_n]; done) | (simp only [push_n, set_n]; omega) | fail) only [go_sem, ↓reduceIte, Nat.reduceEqDiff, Nat.reduceAdd, Nat.reduceMul, Int.reduceToNat, Int.reduceAdd, Int.reduceTDiv, Nat.reduceLeDiff, a5, a8, a9, a18, a19, a20, a21, am, gD, hly, hgb, hlx, hsq]
          exact ⟨_, Nat.sub_lt_sub_left hjn (Nat.lt_succ_self j), j + 1, rfl, by omega, by rw [hany, Bool.false_or], rfl⟩
      · obtain rfl : j = now.length := by omega
        have ht : now.any (fun y => decide (y = x)) = true := by rw [List.any_eq_true]; exact ⟨x, hxn, by simp⟩
        rw [List.take_length, ht] at a20
        simp (disch := first | assumption | omega | (simp only [push_n, set_n]; done) | (simp only [push_n, set_n]; omega) | fail) only [go_sem, ↓reduceIte, Nat.reduceEqDiff, Nat.reduceAdd, Nat.reduceMul, Int.reduceToNat, Int.reduceAdd, Int.reduceTDiv, Nat.reduceLeDiff, a5, a8, a9, a18, a19, a20, a21, am]
        exact ⟨_, Nat.sub_lt_sub_left hkn (Nat.lt_succ_self k), k + 1, rfl, by omega, hv.symm, rfl⟩
    · obtain rfl : k = was.length := by omega
      simp (disch := first | assumption | omega | (simp only [push_n, set_n]; done) | (simp only [push_n, set_n]; omega) | fail) only [go_sem, ↓reduceIte, Nat.reduceEqDiff, Nat.reduceAdd, Nat.reduceMul, Int.reduceToNat, Int.reduceAdd, Int.reduceTDiv, Nat.reduceLeDiff, l5, a5, a8, a9, a18, a19, am]
      exact q _
end Go.Am.YtdcppkhobfbpeaaDoor
