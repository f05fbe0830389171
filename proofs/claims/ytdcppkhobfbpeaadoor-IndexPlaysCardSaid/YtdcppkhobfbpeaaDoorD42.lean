/-
  The statement IndexPlays on the abstract machine: the walk.
-/
import Derived.Test.YtdcppkhobfbpeaaDoorD41
set_option linter.unusedVariables false
set_option linter.unusedSimpArgs false
namespace Go.Am.YtdcppkhobfbpeaaDoor
open Go Go.Am Go.Proofs

theorem news_neat (ns : List Nat) : Neat (news (madeM ns)) := by
  refine ⟨fun o ho => ?_, by rw [show (news (madeM ns)).map One.c = madeM ns by simp [news, Function.comp_def]]; exact madeM_right ns⟩
  obtain ⟨c, hc, rfl⟩ := List.mem_map.1 ho
  have := (madeM_good ns).ok c hc
  cases c with
  | run k b => exact ⟨this.1, this.2, Nat.two_pow_pos _, by simp⟩
  | huge n => exact ⟨this.1, this.2, .inl rfl⟩
  | log a b => exact ⟨this.1, this.2, rfl⟩
  | _ => exact rfl
theorem ok_neat {l : List One} {r : Option (List One)} (hl : Neat l) (h : ∀ l', r = some l' → Neat l' ∧ l'.length = l.length) : Neat (okM l r).2 ∧ (okM l r).2.length = l.length := by
  cases r with
  | none => exact ⟨hl, rfl⟩
  | some l' => exact h l' rfl
theorem drop_ok {l : List One} {p : Pl} (hl : Neat l) : Neat (okM l (dropM l p)).2 ∧ (okM l (dropM l p)).2.length = l.length := ok_neat hl fun l' h => turn_neat hl ((turn_drop hl.tidy).trans h)
theorem keep_ok {l : List One} {p : Pl} (hl : Neat l) : Neat (okM l (keepM l p)).2 ∧ (okM l (keepM l p)).2.length = l.length := ok_neat hl fun l' h => turn_neat hl ((turn_keep hl.tidy).trans h)
theorem free_ok {l : List One} {p : Pl} (hl : Neat l) : Neat (okM l (freeM l p)).2 ∧ (okM l (freeM l p)).2.length = l.length := ok_neat hl fun l' h => turn_neat hl ((turn_free hl.tidy).trans h)
theorem unlog_ok {l : List One} {z : Int} (hl : Neat l) : Neat (okM l (unlogM l z)).2 ∧ (okM l (unlogM l z)).2.length = l.length := ok_neat hl fun l' h => unlog_neat hl h
theorem words_word {cs : List Ck} : cs.map Ck.word = (cs.map Ck.enc).map fun x => [ub x] := by rw [List.map_map]; rfl
theorem table_len {l : List One} : (tableM l).length = l.length := by
  have : ∀ (l : List One) (left : Nat), (tableAux left l).length = l.length := fun l => by
    induction l with
    | nil => intro left; rfl
    | cons o l ih => intro left; unfold tableAux; rw [List.length_cons, ih, List.length_cons]
  exact this l 0
theorem OS.upd2 {h h' : Heap} {e : TypeId} {s lo x y : Nat} {v : Value} {l : List (List Value)} (o : OS h e s lo v l) (u : Upd2 h h' x y) (hx : x < lo) (hy : y < lo) : OS h' e s lo v l :=
  o.mono u.1 fun i hi hi2 => u.2 i hi2 (by omega) (by omega)
theorem Both.low {h h' : Heap} {xb xl yb yl lo : Nat} {l : List One} (b : Both h xb xl yb yl l) (h1 : xb < lo) (h2 : xl < lo) (h3 : yb < lo) (h4 : yl < lo) (hn : h.n ≤ h'.n) (hg : ∀ j, j < lo → h'.get j = h.get j) : Both h' xb xl yb yl l :=
  ⟨⟨by have := b.x.xn; omega, by have := b.x.ln; omega, b.x.ne, (hg _ h1).trans b.x.x, fun hne => (hg _ h2).trans (b.x.l hne)⟩, b.y.keep hn (hg _ h3) (hg _ h4), b.xy, b.yx, b.ll, b.x0, b.y0⟩
theorem seq_place {a b c d : Int} {f : Bool} : seqEq #[.int .i64 a, .int .i64 b, .int .i64 c, .int .i64 d, .bool f] #[.int .i64 a, .int .i64 b, .int .i64 c, .int .i64 d, .bool f] [(0, true), (1, true), (2, true), (3, true), (4, false)] = some true := by
  simp [seqEq, plainEq]

set_option maxHeartbeats 8000000 in
theorem f5_spec {h : Heap} {Q : Value → Heap → Prop} {tv sv : Value} {ns : List Nat} {ops : List Op} (hb : blocks h) (hr : RS h 1 tv (ns.map u16C)) (h16 : ∀ n ∈ ns, n < 65536) (hs : RS h 10 sv (ops.map Op.cells)) (ow : ∀ o ∈ ops, o.which < 256)
    (hvb : vb sv = 0 ∨ 2 ≤ vb sv) (q : ∀ h', Q (.bool true) h') : WC T (.func (.func 5) #[] #[]) [tv, sv] h Q := by
  refine WC_fn T5 rfl ?_
  have lt : ∀ H, lenE H tv = some (.int .i64 ns.length, H) := fun H => by have := hr.len (h' := H); simpa using this
  have ls : ∀ H, lenE H sv = some (.int .i64 ops.length, H) := fun H => by have := hs.len (h' := H); simpa using this
  simp (disch := first | assumption | omega | (simp only [push_n, set_n]; done) | (simp only [push_n, set_n]; omega) | fail) only [go_sem, ↓reduceIte, Nat.reduceEqDiff, Nat.reduceAdd, Nat.reduceMul, Int.reduceToNat, Int.reduceAdd, Int.reduceTDiv, Nat.reduceLeDiff, ir5]
  refine f9_spec hb fun h1 x1 => ?_
  have n_x1 := Ext.n_le x1; try simp only [push_n, set_n] at n_x1
  by_cases h40 : 40 < ns.length
  · simp (disch := first | assumption | omega | (simp only [push_n, set_n]; done) | (simp only [push_n, set_n]; omega) | fail) only [go_sem, ↓reduceIte, Nat.reduceEqDiff, Nat.reduceAdd, Nat.reduceMul, Int.reduceToNat, Int.reduceAdd, Int.reduceTDiv, Nat.reduceLeDiff, lt]
    exact q _
  by_cases s40 : 40 < ops.length
  · simp (disch := first | assumption | omega | (simp only [push_n, set_n]; done) | (simp only [push_n, set_n]; omega) | fail) only [go_sem, ↓reduceIte, Nat.reduceEqDiff, Nat.reduceAdd, Nat.reduceMul, Int.reduceToNat, Int.reduceAdd, Int.reduceTDiv, Nat.reduceLeDiff, lt, ls]
    exact q _
  simp (disch := first | assumption | omega | (simp only [push_n, set_n]; done) | (simp only [push_n, set_n]; omega) | fail) only [go_sem, ↓reduceIte, Nat.reduceEqDiff, Nat.reduceAdd, Nat.reduceMul, Int.reduceToNat, Int.reduceAdd, Int.reduceTDiv, Nat.reduceLeDiff, lt, ls]
  refine f11_spec (hr.mono x1) (by omega) h16 fun v h2 x2 o2 => ?_
  have n_x2 := Ext.n_le x2; try simp only [push_n, set_n] at n_x2
  have hg := madeM_good ns
  have b2 : blocks h2 := (hb.ext x1).ext x2
  have hb1 := hb.1
  have r2 := o2.rs
  simp (disch := first | assumption | omega | (simp only [push_n, set_n]; done) | (simp only [push_n, set_n]; omega) | fail) only [go_sem, ↓reduceIte, Nat.reduceEqDiff, Nat.reduceAdd, Nat.reduceMul, Int.reduceToNat, Int.reduceAdd, Int.reduceTDiv, Nat.reduceLeDiff]
  refine f10_spec (cs := madeM ns) b2 r2 hg.ok (by have := hg.len; omega) ?_
  intro xb xl h3 x3 hxb hxl i3
  have n_x3 := Ext.n_le x3; try simp only [push_n, set_n] at n_x3
  simp (disch := first | assumption | omega | (simp only [push_n, set_n]; done) | (simp only [push_n, set_n]; omega) | fail) only [go_sem, ↓reduceIte, Nat.reduceEqDiff, Nat.reduceAdd, Nat.reduceMul, Int.reduceToNat, Int.reduceAdd, Int.reduceTDiv, Nat.reduceLeDiff]
  refine f21_spec (cs := madeM ns) (b2.ext x3) (r2.mono x3) hg.ok (by have := hg.len; omega) ?_
  intro yb yl h4 x4 hyb hyl i4
  have n_x4 := Ext.n_le x4; try simp only [push_n, set_n] at n_x4
  have hml := hg.len
  change IX h3 xb xl (news (madeM ns)) at i3
  change YX h4 yb yl (news (madeM ns)) at i4
  have nt0 := news_neat ns
  have hnl : (news (madeM ns)).length = (madeM ns).length := by simp [news]
  have xln := i3.ln
  have xbn := i3.xn
  have b5 : blocks h4 := (b2.ext x3).ext x4
  have B0 : Both h4 xb xl yb yl (news (madeM ns)) := ⟨i3.ext x4, i4, by rcases hyl with ⟨rfl, _⟩ | h5 <;> omega, by omega, fun hne => by
    have hne2 : madeM ns ≠ [] := fun e => hne (by rw [e]; rfl)
    rcases hyl with ⟨_, h5⟩ | h5
    · exact (hne2 h5).elim
    · omega, by rcases hxl with ⟨rfl, _⟩ | h5 <;> omega, by rcases hyl with ⟨rfl, _⟩ | h5 <;> omega⟩
  have hsvx : vb sv ≠ xl := by have := rs_vb hs (by omega); rcases hxl with ⟨rfl, _⟩ | h5 <;> omega
  have hsvy : vb sv ≠ yl := by have := rs_vb hs (by omega); rcases hyl with ⟨rfl, _⟩ | h5 <;> omega
  have x04 : Ext h h4 := ((x1.trans x2).trans x3).trans x4
  have rs5 := hs.mono x04
  have xl4 := B0.x.ln
  have xn4 := B0.x.xn
  have yl4 := B0.y.ln
  have yn4 := B0.y.yn
  have x0 := B0.x0
  have y0 := B0.y0
  clear o2 i3 i4 hxl hyl
  generalize news (madeM ns) = l0 at *
  generalize (madeM ns).length = len at *
  simp (disch := first | assumption | omega | (simp only [push_n, set_n]; done) | (simp only [push_n, set_n]; omega) | fail) only [go_sem, ↓reduceIte, Nat.reduceEqDiff, Nat.reduceAdd, Nat.reduceMul, Int.reduceToNat, Int.reduceAdd, Int.reduceTDiv, Nat.reduceLeDiff]
  refine WE_loop (fun m a h' => ∃ (i : Nat) (l : List One) (P : List Pl) (w : Value), m = ops.length - i ∧ i ≤ ops.length ∧ a.get 1 = sv ∧ a.get 5 = .bool true ∧ a.get 7 = .pointer (some ⟨xb, 0, none⟩) ∧ a.get 8 = .pointer (some ⟨yb, 0, none⟩) ∧ a.get 9 = w ∧ a.get 10 = .int .i64 i ∧ a.marks = [] ∧
    Upd2 h4 h' xl yl ∧ Both h' xb xl yb yl l ∧ OS h' 30 5 h4.n w (P.map Pl.cells) ∧ P.length ≤ i ∧ Neat l ∧ l.length = len) ?_ (m := ops.length)
    ⟨0, l0, [], .slice none 0 0, by omega, by omega, by simp (disch := first | assumption | omega | (simp only [push_n, set_n]; done) | (simp only [push_n, set_n]; omega) | fail) only [go_sem, ↓reduceIte, Nat.reduceEqDiff, Nat.reduceAdd, Nat.reduceMul, Int.reduceToNat, Int.reduceAdd, Int.reduceTDiv, Nat.reduceLeDiff], by simp (disch := first | assumption | omega | (simp only [push_n, set_n]; done) | (simp only [push_n, set_n]; omega) | fail) only [go_sem, ↓reduceIte, Nat.reduceEqDiff, Nat.reduceAdd, Nat.reduceMul, Int.reduceToNat, Int.reduceAdd, Int.reduceTDiv, Nat.reduceLeDiff], by simp (disch := first | assumption | omega | (simp only [push_n, set_n]; done) | (simp only [push_n, set_n]; omega) | fail) only [go_sem, ↓reduceIte, Nat.reduceEqDiff, Nat.reduceAdd, Nat.reduceMul, Int.reduceToNat, Int.reduceAdd, Int.reduceTDiv, Nat.reduceLeDiff], by simp (disch := first | assumption | omega | (simp only [push_n, set_n]; done) | (simp only [push_n, set_n]; omega) | fail) only [go_sem, ↓reduceIte, Nat.reduceEqDiff, Nat.reduceAdd, Nat.reduceMul, Int.reduceToNat, Int.reduceAdd, Int.reduceTDiv, Nat.reduceLeDiff], by simp (disch := first | assumption | omega | (simp only [push_n, set_n]; done) | (simp only [push_n, set_n]; omega) | fail) only [go_sem, ↓reduceIte, Nat.reduceEqDiff, Nat.reduceAdd, Nat.reduceMul, Int.reduceToNat, Int.reduceAdd, Int.reduceTDiv, Nat.reduceLeDiff], by simp (disch := first | assumption | omega | (simp only [push_n, set_n]; done) | (simp only [push_n, set_n]; omega) | fail) only [go_sem, ↓reduceIte, Nat.reduceEqDiff, Nat.reduceAdd, Nat.reduceMul, Int.reduceToNat, Int.reduceAdd, Int.reduceTDiv, Nat.reduceLeDiff], rfl, Ext.upd2 (Ext.refl _), B0, OS.nil, by simp, nt0, by omega⟩
  rintro m a h6 ⟨i, l, P, w, rfl, hil, a1, a5, a7, a8, a9, a10, am, u6, B6, o6, hPl, nt6, hl6⟩
  have n6 := u6.1
  by_cases hin : i < ops.length
  · obtain ⟨o, hoi⟩ : ∃ o, ops[i]? = some o := ⟨_, List.getElem?_eq_getElem hin⟩
    have how := ow o (List.mem_of_getElem? hoi)
    have rs6 := rs_upd2 rs5 u6 hsvx hsvy
    obtain ⟨b, cc, e, ro, hv, hgb, hbn⟩ := rs6.atM hin
    have hl := getAt_map (f := Op.cells) (s := 10) (fun _ => rfl) hoi
    obtain ⟨kind, size, lane, which, raw, ⟨c1, c2, c3, c4, c5⟩⟩ := o
    simp only at how
    have e1 := a1
    rw [hv] at a1
    simp (disch := first | assumption | omega | (simp only [push_n, set_n]; done) | (simp only [push_n, set_n]; omega) | fail) only [go_sem, ↓reduceIte, Nat.reduceEqDiff, Nat.reduceAdd, Nat.reduceMul, Int.reduceToNat, Int.reduceAdd, Int.reduceTDiv, Nat.reduceLeDiff, ls, a1, a5, a7, a8, a9, a10, am, hgb, hl, Op.cells]
    refine f22_spec (P := P) (o := ⟨kind, size, lane, which, raw, ⟨c1, c2, c3, c4, c5⟩⟩) (o6.rs.mono (by repeat (first | assumption | exact Ext.refl _ | refine Ext.push ?_ | refine Ext.set ?_ (by omega) | refine Ext.trans ?_ (by assumption)))) (by omega) how ?_
    rintro ⟨pc, pi, pk, pm, pf⟩ h7 x7
    have n_x7 := Ext.n_le x7; try simp only [push_n, set_n] at n_x7
    have g11 : h7.get h6.n = .cells [.int .u8 kind, .int .i64 size, .int .i64 lane, .int .u8 which, .bool raw, .int .i64 c1, .int .i64 c2, .int .i64 c3, .int .i64 c4, .bool c5] 54 false := by
      rw [x7.2 h6.n (by (first | omega | (simp only [push_n, set_n]; done) | (simp only [push_n, set_n]; omega)))]; exact get_push_eq rfl
    have xK : Ext h6 (h7.push (.cells [.int .i64 pc, .int .i64 pi, .int .i64 pk, .int .i64 pm, .bool pf] 30 false)) := Ext.push ((Ext.push (Ext.refl h6)).trans x7)
    have BK := B6.ext xK
    have bK := blocks.upd2 b5 (u6.trans (Ext.upd2 xK)) x0 y0
    rcases (show kind = 0 ∨ kind = 1 ∨ kind = 2 ∨ kind = 3 ∨ kind = 4 ∨ kind = 5 ∨ 6 ≤ kind by omega) with rfl | rfl | rfl | rfl | rfl | rfl | k6
    · by_cases hz : 0 ≤ size ∧ size ≤ 4096
      · obtain ⟨n, rfl⟩ : ∃ n : Nat, size = n := ⟨size.toNat, by omega⟩
        obtain ⟨N9, L9⟩ := take_neat (n := n) nt6 (by omega)
        simp (disch := first | assumption | omega | (simp only [push_n, set_n]; done) | (simp only [push_n, set_n]; omega) | fail) only [go_sem, ↓reduceIte, Nat.reduceEqDiff, Nat.reduceAdd, Nat.reduceMul, Int.reduceToNat, Int.reduceAdd, Int.reduceTDiv, Nat.reduceLeDiff, a1, a5, a7, a8, a9, a10, am, g11, Pl.cells]
        refine f12_spec (n := n) (l := l) (xb := xb) (lb := xl) bK BK.x (by omega) (by omega) ?_
        intro h8 u8 i8
        have n8 := u8.1
        simp only [push_n] at n8
        generalize hT : takeM l n = r at *
        obtain ⟨⟨qc, qi, qk, qm, qf⟩, ec, l'⟩ := r
        simp only at i8 N9 L9
        simp (disch := first | assumption | omega | (simp only [push_n, set_n]; done) | (simp only [push_n, set_n]; omega) | fail) only [go_sem, ↓reduceIte, Nat.reduceEqDiff, Nat.reduceAdd, Nat.reduceMul, Int.reduceToNat, Int.reduceAdd, Int.reduceTDiv, Nat.reduceLeDiff, a1, a5, a7, a8, a9, a10, am, u8.2, g11, Pl.cells]
        refine f23_spec (n := n) (l := l) (yb := yb) (lb := yl) ((BK.mid u8).ext (by repeat (first | assumption | exact Ext.refl _ | refine Ext.push ?_ | refine Ext.set ?_ (by omega) | refine Ext.trans ?_ (by assumption)))) nt6.tidy (by omega) (by omega) ?_
        rw [hT]
        intro h9 u9 i9
        have n9 := u9.1
        simp only [push_n] at n9
        obtain ⟨B9, U9⟩ := BK.step L9 u8 i8 (h2 := h8.push (.cells [.int .i64 qc, .int .i64 qi, .int .i64 qk, .int .i64 qm, .bool qf] 30 false)) (by repeat (first | assumption | exact Ext.refl _ | refine Ext.push ?_ | refine Ext.set ?_ (by omega) | refine Ext.trans ?_ (by assumption))) u9 i9
        have U69 := Upd2.trans (Ext.upd2 xK) U9
        have U49 := Upd2.trans u6 U69
        by_cases he : ec = 0
        · subst he
          have O9 := OS.upd2 o6 U69 xl4 yl4
          obtain ⟨w', h10, e10, o10, n10, g10, b10⟩ := (O9.ext (h' := (h9.push (.cells [.int .i64 qc, .int .i64 qi, .int .i64 qk, .int .i64 qm, .bool qf] 30 false)).push (.cells [.int .i64 qc, .int .i64 qi, .int .i64 qk, .int .i64 qm, .bool qf] 30 false)) (by repeat (first | assumption | exact Ext.refl _ | refine Ext.push ?_ | refine Ext.set ?_ (by omega) | refine Ext.trans ?_ (by assumption)))).app (bytes := 40) (B := h9.n + 1) (get_push_eq (by (first | omega | (simp only [push_n, set_n]; done) | (simp only [push_n, set_n]; omega)))) rfl (by (first | omega | (simp only [push_n, set_n]; done) | (simp only [push_n, set_n]; omega))) (by decide) (by simp; omega)
          simp only [push_n] at n10 g10 b10
          have vc10 := o10.vc
          have hW : P.map Pl.cells ≠ [] → vb w < h6.n ∧ h4.n ≤ vb w := fun hne => ⟨(o6.vb_le hne).2, (o6.vb_le hne).1⟩
          have G : ∀ j, j < h4.n → h10.get j = h9.get j := fun j hj => by
            rw [g10 j (by omega) (fun hne => by have := hW hne; omega)]
            simp (disch := first | assumption | omega | (simp only [push_n, set_n]; done) | (simp only [push_n, set_n]; omega) | fail) only [go_sem, ↓reduceIte, Nat.reduceEqDiff, Nat.reduceAdd, Nat.reduceMul, Int.reduceToNat, Int.reduceAdd, Int.reduceTDiv, Nat.reduceLeDiff]
          have g11' : h10.get h6.n = h9.get h6.n := by
            rw [g10 h6.n (by omega) (fun hne => by have := hW hne; omega)]
            simp (disch := first | assumption | omega | (simp only [push_n, set_n]; done) | (simp only [push_n, set_n]; omega) | fail) only [go_sem, ↓reduceIte, Nat.reduceEqDiff, Nat.reduceAdd, Nat.reduceMul, Int.reduceToNat, Int.reduceAdd, Int.reduceTDiv, Nat.reduceLeDiff]
          have B10 := B9.low xn4 xl4 yn4 yl4 (by omega) G
          have U410 : Upd2 h4 h10 xl yl := ⟨by omega, fun j hj jx jy => (G j hj).trans (U49.2 j hj jx jy)⟩
          simp (disch := first | assumption | omega | (simp only [push_n, set_n]; done) | (simp only [push_n, set_n]; omega) | fail) only [go_sem, ↓reduceIte, Nat.reduceEqDiff, Nat.reduceAdd, Nat.reduceMul, Int.reduceToNat, Int.reduceAdd, Int.reduceTDiv, Nat.reduceLeDiff, a1, a5, a7, a8, a9, a10, am, u8.2, u9.2, g11, g11', seq_place, Pl.cells, e10, beq_self_eq_true, Bool.not_true, ne_eq, not_true_eq_false, decide_false, decide_true]
          have Z_b := B10.x
          have Z_n := U410.1
          refine f16_spec (l := l') (xb := xb) (lb := xl) (blocks.upd2 b5 U410 x0 y0) B10.x (by omega) N9.wf.ok fun v21 h21 x21 o21 => ?_
          have n_x21 := Ext.n_le x21; try simp only [push_n, set_n] at n_x21
          simp (disch := first | assumption | omega | (simp only [push_n, set_n]; done) | (simp only [push_n, set_n]; omega) | fail) only [go_sem, ↓reduceIte, Nat.reduceEqDiff, Nat.reduceAdd, Nat.reduceMul, Int.reduceToNat, Int.reduceAdd, Int.reduceTDiv, Nat.reduceLeDiff, a1, a5, a7, a8, a9, a10, am]
          refine f33_spec (l := l') (yb := yb) (lb := yl) (B10.y.ext x21) N9.tidy N9.right (by omega) fun v22 h22 x22 o22 => ?_
          have n_x22 := Ext.n_le x22; try simp only [push_n, set_n] at n_x22
          simp (disch := first | assumption | omega | (simp only [push_n, set_n]; done) | (simp only [push_n, set_n]; omega) | fail) only [go_sem, ↓reduceIte, Nat.reduceEqDiff, Nat.reduceAdd, Nat.reduceMul, Int.reduceToNat, Int.reduceAdd, Int.reduceTDiv, Nat.reduceLeDiff, a1, a5, a7, a8, a9, a10, am]
          rw [words_word] at o21 o22
          refine f32_spec (xs := (tableM l').map Ck.enc) (ys := (tableM l').map Ck.enc) (o21.rs.mono x22) o22.rs (by rw [List.length_map, table_len]; omega) ?_
          rw [decide_eq_true rfl]
          simp (disch := first | assumption | omega | (simp only [push_n, set_n]; done) | (simp only [push_n, set_n]; omega) | fail) only [go_sem, ↓reduceIte, Nat.reduceEqDiff, Nat.reduceAdd, Nat.reduceMul, Int.reduceToNat, Int.reduceAdd, Int.reduceTDiv, Nat.reduceLeDiff, a1, a5, a7, a8, a9, a10, am]
          refine f35_spec (l := l') (xb := xb) (lb := xl) ((B10.x.ext x21).ext x22) (by omega) fun v23 h23 x23 o23 => ?_
          have n_x23 := Ext.n_le x23; try simp only [push_n, set_n] at n_x23
          simp (disch := first | assumption | omega | (simp only [push_n, set_n]; done) | (simp only [push_n, set_n]; omega) | fail) only [go_sem, ↓reduceIte, Nat.reduceEqDiff, Nat.reduceAdd, Nat.reduceMul, Int.reduceToNat, Int.reduceAdd, Int.reduceTDiv, Nat.reduceLeDiff, a1, a5, a7, a8, a9, a10, am]
          refine f36_spec (l := l') (yb := yb) (lb := yl) (((B10.y.ext x21).ext x22).ext x23) N9.tidy (by omega) fun v24 h24 x24 o24 => ?_
          have n_x24 := Ext.n_le x24; try simp only [push_n, set_n] at n_x24
          simp (disch := first | assumption | omega | (simp only [push_n, set_n]; done) | (simp only [push_n, set_n]; omega) | fail) only [go_sem, ↓reduceIte, Nat.reduceEqDiff, Nat.reduceAdd, Nat.reduceMul, Int.reduceToNat, Int.reduceAdd, Int.reduceTDiv, Nat.reduceLeDiff, a1, a5, a7, a8, a9, a10, am]
          refine f34_spec (xs := rowsOf (frees l')) (o23.rs.mono x24) o24.rs (by have := rowsAux_length (frees l') 0 0; unfold rowsOf; rw [show (frees l').length = (l').length by simp [frees]] at this; omega) ?_
          simp (disch := first | assumption | omega | (simp only [push_n, set_n]; done) | (simp only [push_n, set_n]; omega) | fail) only [go_sem, ↓reduceIte, Nat.reduceEqDiff, Nat.reduceAdd, Nat.reduceMul, Int.reduceToNat, Int.reduceAdd, Int.reduceTDiv, Nat.reduceLeDiff, a1, a5, a7, a8, a9, a10, am]
          have xe : Ext _ h24 := ((x21.trans x22).trans x23).trans x24
          refine ⟨_, Nat.sub_lt_sub_left hin (Nat.lt_succ_self i), i + 1, l', P ++ [⟨qc, qi, qk, qm, qf⟩], w', rfl, by omega, hv.symm, rfl, rfl, U410.trans (Ext.upd2 xe), B10.ext xe, ?_, by simp; omega, N9, by omega⟩
          rw [List.map_append]
          exact o10.ext xe
        · simp (disch := first | assumption | omega | (simp only [push_n, set_n]; done) | (simp only [push_n, set_n]; omega) | fail) only [go_sem, ↓reduceIte, Nat.reduceEqDiff, Nat.reduceAdd, Nat.reduceMul, Int.reduceToNat, Int.reduceAdd, Int.reduceTDiv, Nat.reduceLeDiff, a1, a5, a7, a8, a9, a10, am, u8.2, u9.2, g11, seq_place, Pl.cells, beq_self_eq_true, Bool.not_true, ne_eq, not_true_eq_false, decide_false, decide_true]
          have B10 := B9.ext (h' := h9.push (.cells [.int .i64 qc, .int .i64 qi, .int .i64 qk, .int .i64 qm, .bool qf] 30 false)) (by repeat (first | assumption | exact Ext.refl _ | refine Ext.push ?_ | refine Ext.set ?_ (by omega) | refine Ext.trans ?_ (by assumption)))
          have U610 := U69.trans (Ext.upd2 (h' := h9.push (.cells [.int .i64 qc, .int .i64 qi, .int .i64 qk, .int .i64 qm, .bool qf] 30 false)) (by repeat (first | assumption | exact Ext.refl _ | refine Ext.push ?_ | refine Ext.set ?_ (by omega) | refine Ext.trans ?_ (by assumption))))
          have U410 := Upd2.trans u6 U610
          have Z_b := B10.x
          have Z_n := U410.1
          refine f16_spec (l := l') (xb := xb) (lb := xl) (blocks.upd2 b5 U410 x0 y0) B10.x (by omega) N9.wf.ok fun v21 h21 x21 o21 => ?_
          have n_x21 := Ext.n_le x21; try simp only [push_n, set_n] at n_x21
          simp (disch := first | assumption | omega | (simp only [push_n, set_n]; done) | (simp only [push_n, set_n]; omega) | fail) only [go_sem, ↓reduceIte, Nat.reduceEqDiff, Nat.reduceAdd, Nat.reduceMul, Int.reduceToNat, Int.reduceAdd, Int.reduceTDiv, Nat.reduceLeDiff, a1, a5, a7, a8, a9, a10, am]
          refine f33_spec (l := l') (yb := yb) (lb := yl) (B10.y.ext x21) N9.tidy N9.right (by omega) fun v22 h22 x22 o22 => ?_
          have n_x22 := Ext.n_le x22; try simp only [push_n, set_n] at n_x22
          simp (disch := first | assumption | omega | (simp only [push_n, set_n]; done) | (simp only [push_n, set_n]; omega) | fail) only [go_sem, ↓reduceIte, Nat.reduceEqDiff, Nat.reduceAdd, Nat.reduceMul, Int.reduceToNat, Int.reduceAdd, Int.reduceTDiv, Nat.reduceLeDiff, a1, a5, a7, a8, a9, a10, am]
          rw [words_word] at o21 o22
          refine f32_spec (xs := (tableM l').map Ck.enc) (ys := (tableM l').map Ck.enc) (o21.rs.mono x22) o22.rs (by rw [List.length_map, table_len]; omega) ?_
          rw [decide_eq_true rfl]
          simp (disch := first | assumption | omega | (simp only [push_n, set_n]; done) | (simp only [push_n, set_n]; omega) | fail) only [go_sem, ↓reduceIte, Nat.reduceEqDiff, Nat.reduceAdd, Nat.reduceMul, Int.reduceToNat, Int.reduceAdd, Int.reduceTDiv, Nat.reduceLeDiff, a1, a5, a7, a8, a9, a10, am]
          refine f35_spec (l := l') (xb := xb) (lb := xl) ((B10.x.ext x21).ext x22) (by omega) fun v23 h23 x23 o23 => ?_
          have n_x23 := Ext.n_le x23; try simp only [push_n, set_n] at n_x23
          simp (disch := first | assumption | omega | (simp only [push_n, set_n]; done) | (simp only [push_n, set_n]; omega) | fail) only [go_sem, ↓reduceIte, Nat.reduceEqDiff, Nat.reduceAdd, Nat.reduceMul, Int.reduceToNat, Int.reduceAdd, Int.reduceTDiv, Nat.reduceLeDiff, a1, a5, a7, a8, a9, a10, am]
          refine f36_spec (l := l') (yb := yb) (lb := yl) (((B10.y.ext x21).ext x22).ext x23) N9.tidy (by omega) fun v24 h24 x24 o24 => ?_
          have n_x24 := Ext.n_le x24; try simp only [push_n, set_n] at n_x24
          simp (disch := first | assumption | omega | (simp only [push_n, set_n]; done) | (simp only [push_n, set_n]; omega) | fail) only [go_sem, ↓reduceIte, Nat.reduceEqDiff, Nat.reduceAdd, Nat.reduceMul, Int.reduceToNat, Int.reduceAdd, Int.reduceTDiv, Nat.reduceLeDiff, a1, a5, a7, a8, a9, a10, am]
          refine f34_spec (xs := rowsOf (frees l')) (o23.rs.mono x24) o24.rs (by have := rowsAux_length (frees l') 0 0; unfold rowsOf; rw [show (frees l').length = (l').length by simp [frees]] at this; omega) ?_
          simp (disch := first | assumption | omega | (simp only [push_n, set_n]; done) | (simp only [push_n, set_n]; omega) | fail) only [go_sem, ↓reduceIte, Nat.reduceEqDiff, Nat.reduceAdd, Nat.reduceMul, Int.reduceToNat, Int.reduceAdd, Int.reduceTDiv, Nat.reduceLeDiff, a1, a5, a7, a8, a9, a10, am]
          have xe : Ext _ h24 := ((x21.trans x22).trans x23).trans x24
          exact ⟨_, Nat.sub_lt_sub_left hin (Nat.lt_succ_self i), i + 1, l', P, w, rfl, by omega, hv.symm, rfl, rfl, U410.trans (Ext.upd2 xe), B10.ext xe, (OS.upd2 o6 U610 xl4 yl4).ext xe, by omega, N9, by omega⟩
      · simp (disch := first | assumption | omega | (simp only [push_n, set_n]; done) | (simp only [push_n, set_n]; omega) | fail) only [go_sem, ↓reduceIte, Nat.reduceEqDiff, Nat.reduceAdd, Nat.reduceMul, Int.reduceToNat, Int.reduceAdd, Int.reduceTDiv, Nat.reduceLeDiff, a1, a5, a7, a8, a9, a10, am, g11, Pl.cells]
        refine f12_not hz fun h8 x8 => ?_
        have n_x8 := Ext.n_le x8; try simp only [push_n, set_n] at n_x8
        simp (disch := first | assumption | omega | (simp only [push_n, set_n]; done) | (simp only [push_n, set_n]; omega) | fail) only [go_sem, ↓reduceIte, Nat.reduceEqDiff, Nat.reduceAdd, Nat.reduceMul, Int.reduceToNat, Int.reduceAdd, Int.reduceTDiv, Nat.reduceLeDiff, a1, a5, a7, a8, a9, a10, am, x8.2, g11, Pl.cells]
        refine f23_not hz fun h9 x9 => ?_
        have n_x9 := Ext.n_le x9; try simp only [push_n, set_n] at n_x9
        simp (disch := first | assumption | omega | (simp only [push_n, set_n]; done) | (simp only [push_n, set_n]; omega) | fail) only [go_sem, ↓reduceIte, Nat.reduceEqDiff, Nat.reduceAdd, Nat.reduceMul, Int.reduceToNat, Int.reduceAdd, Int.reduceTDiv, Nat.reduceLeDiff, a1, a5, a7, a8, a9, a10, am, x8.2, x9.2, g11, seq_place, Pl.cells, beq_self_eq_true, Bool.not_true, ne_eq, not_true_eq_false, decide_false, decide_true]
        have x79 : Ext h6 (h9.push (.cells [.int .i64 0, .int .i64 0, .int .i64 0, .int .i64 0, .bool false] 30 false)) := by repeat (first | assumption | exact Ext.refl _ | refine Ext.push ?_ | refine Ext.set ?_ (by omega) | refine Ext.trans ?_ (by assumption))
        have B10 := B6.ext x79
        have U610 : Upd2 h6 _ xl yl := Ext.upd2 x79
        have U410 := Upd2.trans u6 U610
        have Z_b := B10.x
        have Z_n := U410.1
        refine f16_spec (l := l) (xb := xb) (lb := xl) (blocks.upd2 b5 U410 x0 y0) B10.x (by omega) nt6.wf.ok fun v21 h21 x21 o21 => ?_
        have n_x21 := Ext.n_le x21; try simp only [push_n, set_n] at n_x21
        simp (disch := first | assumption | omega | (simp only [push_n, set_n]; done) | (simp only [push_n, set_n]; omega) | fail) only [go_sem, ↓reduceIte, Nat.reduceEqDiff, Nat.reduceAdd, Nat.reduceMul, Int.reduceToNat, Int.reduceAdd, Int.reduceTDiv, Nat.reduceLeDiff, a1, a5, a7, a8, a9, a10, am]
        refine f33_spec (l := l) (yb := yb) (lb := yl) (B10.y.ext x21) nt6.tidy nt6.right (by omega) fun v22 h22 x22 o22 => ?_
        have n_x22 := Ext.n_le x22; try simp only [push_n, set_n] at n_x22
        simp (disch := first | assumption | omega | (simp only [push_n, set_n]; done) | (simp only [push_n, set_n]; omega) | fail) only [go_sem, ↓reduceIte, Nat.reduceEqDiff, Nat.reduceAdd, Nat.reduceMul, Int.reduceToNat, Int.reduceAdd, Int.reduceTDiv, Nat.reduceLeDiff, a1, a5, a7, a8, a9, a10, am]
        rw [words_word] at o21 o22
        refine f32_spec (xs := (tableM l).map Ck.enc) (ys := (tableM l).map Ck.enc) (o21.rs.mono x22) o22.rs (by rw [List.length_map, table_len]; omega) ?_
        rw [decide_eq_true rfl]
        simp (disch := first | assumption | omega | (simp only [push_n, set_n]; done) | (simp only [push_n, set_n]; omega) | fail) only [go_sem, ↓reduceIte, Nat.reduceEqDiff, Nat.reduceAdd, Nat.reduceMul, Int.reduceToNat, Int.reduceAdd, Int.reduceTDiv, Nat.reduceLeDiff, a1, a5, a7, a8, a9, a10, am]
        refine f35_spec (l := l) (xb := xb) (lb := xl) ((B10.x.ext x21).ext x22) (by omega) fun v23 h23 x23 o23 => ?_
        have n_x23 := Ext.n_le x23; try simp only [push_n, set_n] at n_x23
        simp (disch := first | assumption | omega | (simp only [push_n, set_n]; done) | (simp only [push_n, set_n]; omega) | fail) only [go_sem, ↓reduceIte, Nat.reduceEqDiff, Nat.reduceAdd, Nat.reduceMul, Int.reduceToNat, Int.reduceAdd, Int.reduceTDiv, Nat.reduceLeDiff, a1, a5, a7, a8, a9, a10, am]
        refine f36_spec (l := l) (yb := yb) (lb := yl) (((B10.y.ext x21).ext x22).ext x23) nt6.tidy (by omega) fun v24 h24 x24 o24 => ?_
        have n_x24 := Ext.n_le x24; try simp only [push_n, set_n] at n_x24
        simp (disch := first | assumption | omega | (simp only [push_n, set_n]; done) | (simp only [push_n, set_n]; omega) | fail) only [go_sem, ↓reduceIte, Nat.reduceEqDiff, Nat.reduceAdd, Nat.reduceMul, Int.reduceToNat, Int.reduceAdd, Int.reduceTDiv, Nat.reduceLeDiff, a1, a5, a7, a8, a9, a10, am]
        refine f34_spec (xs := rowsOf (frees l)) (o23.rs.mono x24) o24.rs (by have := rowsAux_length (frees l) 0 0; unfold rowsOf; rw [show (frees l).length = (l).length by simp [frees]] at this; omega) ?_
        simp (disch := first | assumption | omega | (simp only [push_n, set_n]; done) | (simp only [push_n, set_n]; omega) | fail) only [go_sem, ↓reduceIte, Nat.reduceEqDiff, Nat.reduceAdd, Nat.reduceMul, Int.reduceToNat, Int.reduceAdd, Int.reduceTDiv, Nat.reduceLeDiff, a1, a5, a7, a8, a9, a10, am]
        have xe : Ext _ h24 := ((x21.trans x22).trans x23).trans x24
        exact ⟨_, Nat.sub_lt_sub_left hin (Nat.lt_succ_self i), i + 1, l, P, w, rfl, by omega, hv.symm, rfl, rfl, U410.trans (Ext.upd2 xe), B10.ext xe, (OS.upd2 o6 U610 xl4 yl4).ext xe, by omega, nt6, by omega⟩
    · skip
      obtain ⟨N9, L9⟩ := drop_ok (p := ⟨pc, pi, pk, pm, pf⟩) nt6
      simp (disch := first | assumption | omega | (simp only [push_n, set_n]; done) | (simp only [push_n, set_n]; omega) | fail) only [go_sem, ↓reduceIte, Nat.reduceEqDiff, Nat.reduceAdd, Nat.reduceMul, Int.reduceToNat, Int.reduceAdd, Int.reduceTDiv, Nat.reduceLeDiff, a1, a5, a7, a8, a9, a10, am, g11, Pl.cells]
      refine f24_spec (p := ⟨pc, pi, pk, pm, pf⟩) (l := l) (xb := xb) (lb := xl) bK BK.x (by omega) nt6.wf.fits ?_
      intro h8 u8 i8
      have n8 := u8.1
      simp only [push_n] at n8
      generalize hT : okM l (dropM l ⟨pc, pi, pk, pm, pf⟩) = r at *
      obtain ⟨ra, l'⟩ := r
      simp only at i8 N9 L9
      simp (disch := first | assumption | omega | (simp only [push_n, set_n]; done) | (simp only [push_n, set_n]; omega) | fail) only [go_sem, ↓reduceIte, Nat.reduceEqDiff, Nat.reduceAdd, Nat.reduceMul, Int.reduceToNat, Int.reduceAdd, Int.reduceTDiv, Nat.reduceLeDiff, a1, a5, a7, a8, a9, a10, am, u8.2, g11]
      refine f25_spec (p := ⟨pc, pi, pk, pm, pf⟩) (l := l) (yb := yb) (lb := yl) (BK.mid u8) nt6 (by omega) ?_
      rw [hT]
      intro h9 u9 i9
      have n9 := u9.1
      obtain ⟨B9, U9⟩ := BK.step L9 u8 i8 (Ext.refl _) u9 i9
      have U69 := Upd2.trans (Ext.upd2 xK) U9
      have U49 := Upd2.trans u6 U69
      simp (disch := first | assumption | omega | (simp only [push_n, set_n]; done) | (simp only [push_n, set_n]; omega) | fail) only [go_sem, ↓reduceIte, Nat.reduceEqDiff, Nat.reduceAdd, Nat.reduceMul, Int.reduceToNat, Int.reduceAdd, Int.reduceTDiv, Nat.reduceLeDiff, a1, a5, a7, a8, a9, a10, am, u8.2, u9.2, g11, beq_self_eq_true, Bool.not_true]
      have Z_b := B9.x
      have Z_n := U49.1
      refine f16_spec (l := l') (xb := xb) (lb := xl) (blocks.upd2 b5 U49 x0 y0) B9.x (by omega) N9.wf.ok fun v21 h21 x21 o21 => ?_
      have n_x21 := Ext.n_le x21; try simp only [push_n, set_n] at n_x21
      simp (disch := first | assumption | omega | (simp only [push_n, set_n]; done) | (simp only [push_n, set_n]; omega) | fail) only [go_sem, ↓reduceIte, Nat.reduceEqDiff, Nat.reduceAdd, Nat.reduceMul, Int.reduceToNat, Int.reduceAdd, Int.reduceTDiv, Nat.reduceLeDiff, a1, a5, a7, a8, a9, a10, am]
      refine f33_spec (l := l') (yb := yb) (lb := yl) (B9.y.ext x21) N9.tidy N9.right (by omega) fun v22 h22 x22 o22 => ?_
      have n_x22 := Ext.n_le x22; try simp only [push_n, set_n] at n_x22
      simp (disch := first | assumption | omega | (simp only [push_n, set_n]; done) | (simp only [push_n, set_n]; omega) | fail) only [go_sem, ↓reduceIte, Nat.reduceEqDiff, Nat.reduceAdd, Nat.reduceMul, Int.reduceToNat, Int.reduceAdd, Int.reduceTDiv, Nat.reduceLeDiff, a1, a5, a7, a8, a9, a10, am]
      rw [words_word] at o21 o22
      refine f32_spec (xs := (tableM l').map Ck.enc) (ys := (tableM l').map Ck.enc) (o21.rs.mono x22) o22.rs (by rw [List.length_map, table_len]; omega) ?_
      rw [decide_eq_true rfl]
      simp (disch := first | assumption | omega | (simp only [push_n, set_n]; done) | (simp only [push_n, set_n]; omega) | fail) only [go_sem, ↓reduceIte, Nat.reduceEqDiff, Nat.reduceAdd, Nat.reduceMul, Int.reduceToNat, Int.reduceAdd, Int.reduceTDiv, Nat.reduceLeDiff, a1, a5, a7, a8, a9, a10, am]
      refine f35_spec (l := l') (xb := xb) (lb := xl) ((B9.x.ext x21).ext x22) (by omega) fun v23 h23 x23 o23 => ?_
      have n_x23 := Ext.n_le x23; try simp only [push_n, set_n] at n_x23
      simp (disch := first | assumption | omega | (simp only [push_n, set_n]; done) | (simp only [push_n, set_n]; omega) | fail) only [go_sem, ↓reduceIte, Nat.reduceEqDiff, Nat.reduceAdd, Nat.reduceMul, Int.reduceToNat, Int.reduceAdd, Int.reduceTDiv, Nat.reduceLeDiff, a1, a5, a7, a8, a9, a10, am]
      refine f36_spec (l := l') (yb := yb) (lb := yl) (((B9.y.ext x21).ext x22).ext x23) N9.tidy (by omega) fun v24 h24 x24 o24 => ?_
      have n_x24 := Ext.n_le x24; try simp only [push_n, set_n] at n_x24
      simp (disch := first | assumption | omega | (simp only [push_n, set_n]; done) | (simp only [push_n, set_n]; omega) | fail) only [go_sem, ↓reduceIte, Nat.reduceEqDiff, Nat.reduceAdd, Nat.reduceMul, Int.reduceToNat, Int.reduceAdd, Int.reduceTDiv, Nat.reduceLeDiff, a1, a5, a7, a8, a9, a10, am]
      refine f34_spec (xs := rowsOf (frees l')) (o23.rs.mono x24) o24.rs (by have := rowsAux_length (frees l') 0 0; unfold rowsOf; rw [show (frees l').length = (l').length by simp [frees]] at this; omega) ?_
      simp (disch := first | assumption | omega | (simp only [push_n, set_n]; done) | (simp only [push_n, set_n]; omega) | fail) only [go_sem, ↓reduceIte, Nat.reduceEqDiff, Nat.reduceAdd, Nat.reduceMul, Int.reduceToNat, Int.reduceAdd, Int.reduceTDiv, Nat.reduceLeDiff, a1, a5, a7, a8, a9, a10, am]
      have xe : Ext _ h24 := ((x21.trans x22).trans x23).trans x24
      exact ⟨_, Nat.sub_lt_sub_left hin (Nat.lt_succ_self i), i + 1, l', P, w, rfl, by omega, hv.symm, rfl, rfl, U49.trans (Ext.upd2 xe), B9.ext xe, (OS.upd2 o6 U69 xl4 yl4).ext xe, by omega, N9, by omega⟩
    · skip
      obtain ⟨N9, L9⟩ := keep_ok (p := ⟨pc, pi, pk, pm, pf⟩) nt6
      simp (disch := first | assumption | omega | (simp only [push_n, set_n]; done) | (simp only [push_n, set_n]; omega) | fail) only [go_sem, ↓reduceIte, Nat.reduceEqDiff, Nat.reduceAdd, Nat.reduceMul, Int.reduceToNat, Int.reduceAdd, Int.reduceTDiv, Nat.reduceLeDiff, a1, a5, a7, a8, a9, a10, am, g11, Pl.cells]
      refine f13_spec (p := ⟨pc, pi, pk, pm, pf⟩) (l := l) (xb := xb) (lb := xl) bK BK.x (by omega) ?_
      intro h8 u8 i8
      have n8 := u8.1
      simp only [push_n] at n8
      generalize hT : okM l (keepM l ⟨pc, pi, pk, pm, pf⟩) = r at *
      obtain ⟨ra, l'⟩ := r
      simp only at i8 N9 L9
      simp (disch := first | assumption | omega | (simp only [push_n, set_n]; done) | (simp only [push_n, set_n]; omega) | fail) only [go_sem, ↓reduceIte, Nat.reduceEqDiff, Nat.reduceAdd, Nat.reduceMul, Int.reduceToNat, Int.reduceAdd, Int.reduceTDiv, Nat.reduceLeDiff, a1, a5, a7, a8, a9, a10, am, u8.2, g11]
      refine f26_spec (p := ⟨pc, pi, pk, pm, pf⟩) (l := l) (yb := yb) (lb := yl) (BK.mid u8) nt6 (by omega) ?_
      rw [hT]
      intro h9 u9 i9
      have n9 := u9.1
      obtain ⟨B9, U9⟩ := BK.step L9 u8 i8 (Ext.refl _) u9 i9
      have U69 := Upd2.trans (Ext.upd2 xK) U9
      have U49 := Upd2.trans u6 U69
      simp (disch := first | assumption | omega | (simp only [push_n, set_n]; done) | (simp only [push_n, set_n]; omega) | fail) only [go_sem, ↓reduceIte, Nat.reduceEqDiff, Nat.reduceAdd, Nat.reduceMul, Int.reduceToNat, Int.reduceAdd, Int.reduceTDiv, Nat.reduceLeDiff, a1, a5, a7, a8, a9, a10, am, u8.2, u9.2, g11, beq_self_eq_true, Bool.not_true]
      have Z_b := B9.x
      have Z_n := U49.1
      refine f16_spec (l := l') (xb := xb) (lb := xl) (blocks.upd2 b5 U49 x0 y0) B9.x (by omega) N9.wf.ok fun v21 h21 x21 o21 => ?_
      have n_x21 := Ext.n_le x21; try simp only [push_n, set_n] at n_x21
      simp (disch := first | assumption | omega | (simp only [push_n, set_n]; done) | (simp only [push_n, set_n]; omega) | fail) only [go_sem, ↓reduceIte, Nat.reduceEqDiff, Nat.reduceAdd, Nat.reduceMul, Int.reduceToNat, Int.reduceAdd, Int.reduceTDiv, Nat.reduceLeDiff, a1, a5, a7, a8, a9, a10, am]
      refine f33_spec (l := l') (yb := yb) (lb := yl) (B9.y.ext x21) N9.tidy N9.right (by omega) fun v22 h22 x22 o22 => ?_
      have n_x22 := Ext.n_le x22; try simp only [push_n, set_n] at n_x22
      simp (disch := first | assumption | omega | (simp only [push_n, set_n]; done) | (simp only [push_n, set_n]; omega) | fail) only [go_sem, ↓reduceIte, Nat.reduceEqDiff, Nat.reduceAdd, Nat.reduceMul, Int.reduceToNat, Int.reduceAdd, Int.reduceTDiv, Nat.reduceLeDiff, a1, a5, a7, a8, a9, a10, am]
      rw [words_word] at o21 o22
      refine f32_spec (xs := (tableM l').map Ck.enc) (ys := (tableM l').map Ck.enc) (o21.rs.mono x22) o22.rs (by rw [List.length_map, table_len]; omega) ?_
      rw [decide_eq_true rfl]
      simp (disch := first | assumption | omega | (simp only [push_n, set_n]; done) | (simp only [push_n, set_n]; omega) | fail) only [go_sem, ↓reduceIte, Nat.reduceEqDiff, Nat.reduceAdd, Nat.reduceMul, Int.reduceToNat, Int.reduceAdd, Int.reduceTDiv, Nat.reduceLeDiff, a1, a5, a7, a8, a9, a10, am]
      refine f35_spec (l := l') (xb := xb) (lb := xl) ((B9.x.ext x21).ext x22) (by omega) fun v23 h23 x23 o23 => ?_
      have n_x23 := Ext.n_le x23; try simp only [push_n, set_n] at n_x23
      simp (disch := first | assumption | omega | (simp only [push_n, set_n]; done) | (simp only [push_n, set_n]; omega) | fail) only [go_sem, ↓reduceIte, Nat.reduceEqDiff, Nat.reduceAdd, Nat.reduceMul, Int.reduceToNat, Int.reduceAdd, Int.reduceTDiv, Nat.reduceLeDiff, a1, a5, a7, a8, a9, a10, am]
      refine f36_spec (l := l') (yb := yb) (lb := yl) (((B9.y.ext x21).ext x22).ext x23) N9.tidy (by omega) fun v24 h24 x24 o24 => ?_
      have n_x24 := Ext.n_le x24; try simp only [push_n, set_n] at n_x24
      simp (disch := first | assumption | omega | (simp only [push_n, set_n]; done) | (simp only [push_n, set_n]; omega) | fail) only [go_sem, ↓reduceIte, Nat.reduceEqDiff, Nat.reduceAdd, Nat.reduceMul, Int.reduceToNat, Int.reduceAdd, Int.reduceTDiv, Nat.reduceLeDiff, a1, a5, a7, a8, a9, a10, am]
      refine f34_spec (xs := rowsOf (frees l')) (o23.rs.mono x24) o24.rs (by have := rowsAux_length (frees l') 0 0; unfold rowsOf; rw [show (frees l').length = (l').length by simp [frees]] at this; omega) ?_
      simp (disch := first | assumption | omega | (simp only [push_n, set_n]; done) | (simp only [push_n, set_n]; omega) | fail) only [go_sem, ↓reduceIte, Nat.reduceEqDiff, Nat.reduceAdd, Nat.reduceMul, Int.reduceToNat, Int.reduceAdd, Int.reduceTDiv, Nat.reduceLeDiff, a1, a5, a7, a8, a9, a10, am]
      have xe : Ext _ h24 := ((x21.trans x22).trans x23).trans x24
      exact ⟨_, Nat.sub_lt_sub_left hin (Nat.lt_succ_self i), i + 1, l', P, w, rfl, by omega, hv.symm, rfl, rfl, U49.trans (Ext.upd2 xe), B9.ext xe, (OS.upd2 o6 U69 xl4 yl4).ext xe, by omega, N9, by omega⟩
    · skip
      obtain ⟨N9, L9⟩ := free_ok (p := ⟨pc, pi, pk, pm, pf⟩) nt6
      simp (disch := first | assumption | omega | (simp only [push_n, set_n]; done) | (simp only [push_n, set_n]; omega) | fail) only [go_sem, ↓reduceIte, Nat.reduceEqDiff, Nat.reduceAdd, Nat.reduceMul, Int.reduceToNat, Int.reduceAdd, Int.reduceTDiv, Nat.reduceLeDiff, a1, a5, a7, a8, a9, a10, am, g11, Pl.cells]
      refine f14_spec (p := ⟨pc, pi, pk, pm, pf⟩) (l := l) (xb := xb) (lb := xl) bK BK.x (by omega) nt6.wf.fits ?_
      intro h8 u8 i8
      have n8 := u8.1
      simp only [push_n] at n8
      generalize hT : okM l (freeM l ⟨pc, pi, pk, pm, pf⟩) = r at *
      obtain ⟨ra, l'⟩ := r
      simp only at i8 N9 L9
      simp (disch := first | assumption | omega | (simp only [push_n, set_n]; done) | (simp only [push_n, set_n]; omega) | fail) only [go_sem, ↓reduceIte, Nat.reduceEqDiff, Nat.reduceAdd, Nat.reduceMul, Int.reduceToNat, Int.reduceAdd, Int.reduceTDiv, Nat.reduceLeDiff, a1, a5, a7, a8, a9, a10, am, u8.2, g11]
      refine f27_spec (p := ⟨pc, pi, pk, pm, pf⟩) (l := l) (yb := yb) (lb := yl) (BK.mid u8) nt6 (by omega) ?_
      rw [hT]
      intro h9 u9 i9
      have n9 := u9.1
      obtain ⟨B9, U9⟩ := BK.step L9 u8 i8 (Ext.refl _) u9 i9
      have U69 := Upd2.trans (Ext.upd2 xK) U9
      have U49 := Upd2.trans u6 U69
      simp (disch := first | assumption | omega | (simp only [push_n, set_n]; done) | (simp only [push_n, set_n]; omega) | fail) only [go_sem, ↓reduceIte, Nat.reduceEqDiff, Nat.reduceAdd, Nat.reduceMul, Int.reduceToNat, Int.reduceAdd, Int.reduceTDiv, Nat.reduceLeDiff, a1, a5, a7, a8, a9, a10, am, u8.2, u9.2, g11, beq_self_eq_true, Bool.not_true]
      have Z_b := B9.x
      have Z_n := U49.1
      refine f16_spec (l := l') (xb := xb) (lb := xl) (blocks.upd2 b5 U49 x0 y0) B9.x (by omega) N9.wf.ok fun v21 h21 x21 o21 => ?_
      have n_x21 := Ext.n_le x21; try simp only [push_n, set_n] at n_x21
      simp (disch := first | assumption | omega | (simp only [push_n, set_n]; done) | (simp only [push_n, set_n]; omega) | fail) only [go_sem, ↓reduceIte, Nat.reduceEqDiff, Nat.reduceAdd, Nat.reduceMul, Int.reduceToNat, Int.reduceAdd, Int.reduceTDiv, Nat.reduceLeDiff, a1, a5, a7, a8, a9, a10, am]
      refine f33_spec (l := l') (yb := yb) (lb := yl) (B9.y.ext x21) N9.tidy N9.right (by omega) fun v22 h22 x22 o22 => ?_
      have n_x22 := Ext.n_le x22; try simp only [push_n, set_n] at n_x22
      simp (disch := first | assumption | omega | (simp only [push_n, set_n]; done) | (simp only [push_n, set_n]; omega) | fail) only [go_sem, ↓reduceIte, Nat.reduceEqDiff, Nat.reduceAdd, Nat.reduceMul, Int.reduceToNat, Int.reduceAdd, Int.reduceTDiv, Nat.reduceLeDiff, a1, a5, a7, a8, a9, a10, am]
      rw [words_word] at o21 o22
      refine f32_spec (xs := (tableM l').map Ck.enc) (ys := (tableM l').map Ck.enc) (o21.rs.mono x22) o22.rs (by rw [List.length_map, table_len]; omega) ?_
      rw [decide_eq_true rfl]
      simp (disch := first | assumption | omega | (simp only [push_n, set_n]; done) | (simp only [push_n, set_n]; omega) | fail) only [go_sem, ↓reduceIte, Nat.reduceEqDiff, Nat.reduceAdd, Nat.reduceMul, Int.reduceToNat, Int.reduceAdd, Int.reduceTDiv, Nat.reduceLeDiff, a1, a5, a7, a8, a9, a10, am]
      refine f35_spec (l := l') (xb := xb) (lb := xl) ((B9.x.ext x21).ext x22) (by omega) fun v23 h23 x23 o23 => ?_
      have n_x23 := Ext.n_le x23; try simp only [push_n, set_n] at n_x23
      simp (disch := first | assumption | omega | (simp only [push_n, set_n]; done) | (simp only [push_n, set_n]; omega) | fail) only [go_sem, ↓reduceIte, Nat.reduceEqDiff, Nat.reduceAdd, Nat.reduceMul, Int.reduceToNat, Int.reduceAdd, Int.reduceTDiv, Nat.reduceLeDiff, a1, a5, a7, a8, a9, a10, am]
      refine f36_spec (l := l') (yb := yb) (lb := yl) (((B9.y.ext x21).ext x22).ext x23) N9.tidy (by omega) fun v24 h24 x24 o24 => ?_
      have n_x24 := Ext.n_le x24; try simp only [push_n, set_n] at n_x24
      simp (disch := first | assumption | omega | (simp only [push_n, set_n]; done) | (simp only [push_n, set_n]; omega) | fail) only [go_sem, ↓reduceIte, Nat.reduceEqDiff, Nat.reduceAdd, Nat.reduceMul, Int.reduceToNat, Int.reduceAdd, Int.reduceTDiv, Nat.reduceLeDiff, a1, a5, a7, a8, a9, a10, am]
      refine f34_spec (xs := rowsOf (frees l')) (o23.rs.mono x24) o24.rs (by have := rowsAux_length (frees l') 0 0; unfold rowsOf; rw [show (frees l').length = (l').length by simp [frees]] at this; omega) ?_
      simp (disch := first | assumption | omega | (simp only [push_n, set_n]; done) | (simp only [push_n, set_n]; omega) | fail) only [go_sem, ↓reduceIte, Nat.reduceEqDiff, Nat.reduceAdd, Nat.reduceMul, Int.reduceToNat, Int.reduceAdd, Int.reduceTDiv, Nat.reduceLeDiff, a1, a5, a7, a8, a9, a10, am]
      have xe : Ext _ h24 := ((x21.trans x22).trans x23).trans x24
      exact ⟨_, Nat.sub_lt_sub_left hin (Nat.lt_succ_self i), i + 1, l', P, w, rfl, by omega, hv.symm, rfl, rfl, U49.trans (Ext.upd2 xe), B9.ext xe, (OS.upd2 o6 U69 xl4 yl4).ext xe, by omega, N9, by omega⟩
    · obtain ⟨N9, L9⟩ := log_neat (lane := lane) (number := size) nt6
      simp (disch := first | assumption | omega | (simp only [push_n, set_n]; done) | (simp only [push_n, set_n]; omega) | fail) only [go_sem, ↓reduceIte, Nat.reduceEqDiff, Nat.reduceAdd, Nat.reduceMul, Int.reduceToNat, Int.reduceAdd, Int.reduceTDiv, Nat.reduceLeDiff, a1, a5, a7, a8, a9, a10, am, g11, Pl.cells]
      refine f28_spec (l := l) (xb := xb) (lb := xl) bK BK.x (by omega) ?_
      intro h8 u8 i8
      have n8 := u8.1
      simp only [push_n] at n8
      generalize hT : logM l lane size = r at *
      obtain ⟨z1, z2, l'⟩ := r
      simp only at i8 N9 L9
      simp (disch := first | assumption | omega | (simp only [push_n, set_n]; done) | (simp only [push_n, set_n]; omega) | fail) only [go_sem, ↓reduceIte, Nat.reduceEqDiff, Nat.reduceAdd, Nat.reduceMul, Int.reduceToNat, Int.reduceAdd, Int.reduceTDiv, Nat.reduceLeDiff, a1, a5, a7, a8, a9, a10, am, u8.2, g11]
      refine f29_spec (l := l) (yb := yb) (lb := yl) (BK.mid u8) nt6 (by omega) ?_
      rw [hT]
      intro h9 u9 i9
      have n9 := u9.1
      obtain ⟨B9, U9⟩ := BK.step L9 u8 i8 (Ext.refl _) u9 i9
      have U69 := Upd2.trans (Ext.upd2 xK) U9
      have U49 := Upd2.trans u6 U69
      simp (disch := first | assumption | omega | (simp only [push_n, set_n]; done) | (simp only [push_n, set_n]; omega) | fail) only [go_sem, ↓reduceIte, Nat.reduceEqDiff, Nat.reduceAdd, Nat.reduceMul, Int.reduceToNat, Int.reduceAdd, Int.reduceTDiv, Nat.reduceLeDiff, a1, a5, a7, a8, a9, a10, am, u8.2, u9.2, g11, beq_self_eq_true, Bool.not_true, ne_eq, not_true_eq_false, decide_false, decide_true]
      have Z_b := B9.x
      have Z_n := U49.1
      refine f16_spec (l := l') (xb := xb) (lb := xl) (blocks.upd2 b5 U49 x0 y0) B9.x (by omega) N9.wf.ok fun v21 h21 x21 o21 => ?_
      have n_x21 := Ext.n_le x21; try simp only [push_n, set_n] at n_x21
      simp (disch := first | assumption | omega | (simp only [push_n, set_n]; done) | (simp only [push_n, set_n]; omega) | fail) only [go_sem, ↓reduceIte, Nat.reduceEqDiff, Nat.reduceAdd, Nat.reduceMul, Int.reduceToNat, Int.reduceAdd, Int.reduceTDiv, Nat.reduceLeDiff, a1, a5, a7, a8, a9, a10, am]
      refine f33_spec (l := l') (yb := yb) (lb := yl) (B9.y.ext x21) N9.tidy N9.right (by omega) fun v22 h22 x22 o22 => ?_
      have n_x22 := Ext.n_le x22; try simp only [push_n, set_n] at n_x22
      simp (disch := first | assumption | omega | (simp only [push_n, set_n]; done) | (simp only [push_n, set_n]; omega) | fail) only [go_sem, ↓reduceIte, Nat.reduceEqDiff, Nat.reduceAdd, Nat.reduceMul, Int.reduceToNat, Int.reduceAdd, Int.reduceTDiv, Nat.reduceLeDiff, a1, a5, a7, a8, a9, a10, am]
      rw [words_word] at o21 o22
      refine f32_spec (xs := (tableM l').map Ck.enc) (ys := (tableM l').map Ck.enc) (o21.rs.mono x22) o22.rs (by rw [List.length_map, table_len]; omega) ?_
      rw [decide_eq_true rfl]
      simp (disch := first | assumption | omega | (simp only [push_n, set_n]; done) | (simp only [push_n, set_n]; omega) | fail) only [go_sem, ↓reduceIte, Nat.reduceEqDiff, Nat.reduceAdd, Nat.reduceMul, Int.reduceToNat, Int.reduceAdd, Int.reduceTDiv, Nat.reduceLeDiff, a1, a5, a7, a8, a9, a10, am]
      refine f35_spec (l := l') (xb := xb) (lb := xl) ((B9.x.ext x21).ext x22) (by omega) fun v23 h23 x23 o23 => ?_
      have n_x23 := Ext.n_le x23; try simp only [push_n, set_n] at n_x23
      simp (disch := first | assumption | omega | (simp only [push_n, set_n]; done) | (simp only [push_n, set_n]; omega) | fail) only [go_sem, ↓reduceIte, Nat.reduceEqDiff, Nat.reduceAdd, Nat.reduceMul, Int.reduceToNat, Int.reduceAdd, Int.reduceTDiv, Nat.reduceLeDiff, a1, a5, a7, a8, a9, a10, am]
      refine f36_spec (l := l') (yb := yb) (lb := yl) (((B9.y.ext x21).ext x22).ext x23) N9.tidy (by omega) fun v24 h24 x24 o24 => ?_
      have n_x24 := Ext.n_le x24; try simp only [push_n, set_n] at n_x24
      simp (disch := first | assumption | omega | (simp only [push_n, set_n]; done) | (simp only [push_n, set_n]; omega) | fail) only [go_sem, ↓reduceIte, Nat.reduceEqDiff, Nat.reduceAdd, Nat.reduceMul, Int.reduceToNat, Int.reduceAdd, Int.reduceTDiv, Nat.reduceLeDiff, a1, a5, a7, a8, a9, a10, am]
      refine f34_spec (xs := rowsOf (frees l')) (o23.rs.mono x24) o24.rs (by have := rowsAux_length (frees l') 0 0; unfold rowsOf; rw [show (frees l').length = (l').length by simp [frees]] at this; omega) ?_
      simp (disch := first | assumption | omega | (simp only [push_n, set_n]; done) | (simp only [push_n, set_n]; omega) | fail) only [go_sem, ↓reduceIte, Nat.reduceEqDiff, Nat.reduceAdd, Nat.reduceMul, Int.reduceToNat, Int.reduceAdd, Int.reduceTDiv, Nat.reduceLeDiff, a1, a5, a7, a8, a9, a10, am]
      have xe : Ext _ h24 := ((x21.trans x22).trans x23).trans x24
      exact ⟨_, Nat.sub_lt_sub_left hin (Nat.lt_succ_self i), i + 1, l', P, w, rfl, by omega, hv.symm, rfl, rfl, U49.trans (Ext.upd2 xe), B9.ext xe, (OS.upd2 o6 U69 xl4 yl4).ext xe, by omega, N9, by omega⟩
    · skip
      obtain ⟨N9, L9⟩ := unlog_ok (z := c1) nt6
      simp (disch := first | assumption | omega | (simp only [push_n, set_n]; done) | (simp only [push_n, set_n]; omega) | fail) only [go_sem, ↓reduceIte, Nat.reduceEqDiff, Nat.reduceAdd, Nat.reduceMul, Int.reduceToNat, Int.reduceAdd, Int.reduceTDiv, Nat.reduceLeDiff, a1, a5, a7, a8, a9, a10, am, g11, Pl.cells]
      refine f30_spec (z := c1) (l := l) (xb := xb) (lb := xl) BK.x (by omega) ?_
      intro h8 u8 i8
      have n8 := u8.1
      simp only [push_n] at n8
      generalize hT : okM l (unlogM l c1) = r at *
      obtain ⟨ra, l'⟩ := r
      simp only at i8 N9 L9
      simp (disch := first | assumption | omega | (simp only [push_n, set_n]; done) | (simp only [push_n, set_n]; omega) | fail) only [go_sem, ↓reduceIte, Nat.reduceEqDiff, Nat.reduceAdd, Nat.reduceMul, Int.reduceToNat, Int.reduceAdd, Int.reduceTDiv, Nat.reduceLeDiff, a1, a5, a7, a8, a9, a10, am, u8.2, g11]
      refine f31_spec (z := c1) (l := l) (yb := yb) (lb := yl) (BK.mid u8) (by omega) ?_
      rw [hT]
      intro h9 u9 i9
      have n9 := u9.1
      obtain ⟨B9, U9⟩ := BK.step L9 u8 i8 (Ext.refl _) u9 i9
      have U69 := Upd2.trans (Ext.upd2 xK) U9
      have U49 := Upd2.trans u6 U69
      simp (disch := first | assumption | omega | (simp only [push_n, set_n]; done) | (simp only [push_n, set_n]; omega) | fail) only [go_sem, ↓reduceIte, Nat.reduceEqDiff, Nat.reduceAdd, Nat.reduceMul, Int.reduceToNat, Int.reduceAdd, Int.reduceTDiv, Nat.reduceLeDiff, a1, a5, a7, a8, a9, a10, am, u8.2, u9.2, g11, beq_self_eq_true, Bool.not_true]
      have Z_b := B9.x
      have Z_n := U49.1
      refine f16_spec (l := l') (xb := xb) (lb := xl) (blocks.upd2 b5 U49 x0 y0) B9.x (by omega) N9.wf.ok fun v21 h21 x21 o21 => ?_
      have n_x21 := Ext.n_le x21; try simp only [push_n, set_n] at n_x21
      simp (disch := first | assumption | omega | (simp only [push_n, set_n]; done) | (simp only [push_n, set_n]; omega) | fail) only [go_sem, ↓reduceIte, Nat.reduceEqDiff, Nat.reduceAdd, Nat.reduceMul, Int.reduceToNat, Int.reduceAdd, Int.reduceTDiv, Nat.reduceLeDiff, a1, a5, a7, a8, a9, a10, am]
      refine f33_spec (l := l') (yb := yb) (lb := yl) (B9.y.ext x21) N9.tidy N9.right (by omega) fun v22 h22 x22 o22 => ?_
      have n_x22 := Ext.n_le x22; try simp only [push_n, set_n] at n_x22
      simp (disch := first | assumption | omega | (simp only [push_n, set_n]; done) | (simp only [push_n, set_n]; omega) | fail) only [go_sem, ↓reduceIte, Nat.reduceEqDiff, Nat.reduceAdd, Nat.reduceMul, Int.reduceToNat, Int.reduceAdd, Int.reduceTDiv, Nat.reduceLeDiff, a1, a5, a7, a8, a9, a10, am]
      rw [words_word] at o21 o22
      refine f32_spec (xs := (tableM l').map Ck.enc) (ys := (tableM l').map Ck.enc) (o21.rs.mono x22) o22.rs (by rw [List.length_map, table_len]; omega) ?_
      rw [decide_eq_true rfl]
      simp (disch := first | assumption | omega | (simp only [push_n, set_n]; done) | (simp only [push_n, set_n]; omega) | fail) only [go_sem, ↓reduceIte, Nat.reduceEqDiff, Nat.reduceAdd, Nat.reduceMul, Int.reduceToNat, Int.reduceAdd, Int.reduceTDiv, Nat.reduceLeDiff, a1, a5, a7, a8, a9, a10, am]
      refine f35_spec (l := l') (xb := xb) (lb := xl) ((B9.x.ext x21).ext x22) (by omega) fun v23 h23 x23 o23 => ?_
      have n_x23 := Ext.n_le x23; try simp only [push_n, set_n] at n_x23
      simp (disch := first | assumption | omega | (simp only [push_n, set_n]; done) | (simp only [push_n, set_n]; omega) | fail) only [go_sem, ↓reduceIte, Nat.reduceEqDiff, Nat.reduceAdd, Nat.reduceMul, Int.reduceToNat, Int.reduceAdd, Int.reduceTDiv, Nat.reduceLeDiff, a1, a5, a7, a8, a9, a10, am]
      refine f36_spec (l := l') (yb := yb) (lb := yl) (((B9.y.ext x21).ext x22).ext x23) N9.tidy (by omega) fun v24 h24 x24 o24 => ?_
      have n_x24 := Ext.n_le x24; try simp only [push_n, set_n] at n_x24
      simp (disch := first | assumption | omega | (simp only [push_n, set_n]; done) | (simp only [push_n, set_n]; omega) | fail) only [go_sem, ↓reduceIte, Nat.reduceEqDiff, Nat.reduceAdd, Nat.reduceMul, Int.reduceToNat, Int.reduceAdd, Int.reduceTDiv, Nat.reduceLeDiff, a1, a5, a7, a8, a9, a10, am]
      refine f34_spec (xs := rowsOf (frees l')) (o23.rs.mono x24) o24.rs (by have := rowsAux_length (frees l') 0 0; unfold rowsOf; rw [show (frees l').length = (l').length by simp [frees]] at this; omega) ?_
      simp (disch := first | assumption | omega | (simp only [push_n, set_n]; done) | (simp only [push_n, set_n]; omega) | fail) only [go_sem, ↓reduceIte, Nat.reduceEqDiff, Nat.reduceAdd, Nat.reduceMul, Int.reduceToNat, Int.reduceAdd, Int.reduceTDiv, Nat.reduceLeDiff, a1, a5, a7, a8, a9, a10, am]
      have xe : Ext _ h24 := ((x21.trans x22).trans x23).trans x24
      exact ⟨_, Nat.sub_lt_sub_left hin (Nat.lt_succ_self i), i + 1, l', P, w, rfl, by omega, hv.symm, rfl, rfl, U49.trans (Ext.upd2 xe), B9.ext xe, (OS.upd2 o6 U69 xl4 yl4).ext xe, by omega, N9, by omega⟩
    · simp (disch := first | assumption | omega | (simp only [push_n, set_n]; done) | (simp only [push_n, set_n]; omega) | fail) only [go_sem, ↓reduceIte, Nat.reduceEqDiff, Nat.reduceAdd, Nat.reduceMul, Int.reduceToNat, Int.reduceAdd, Int.reduceTDiv, Nat.reduceLeDiff, a1, a5, a7, a8, a9, a10, am, g11, Pl.cells]
      have U49 := Upd2.trans u6 (Ext.upd2 xK)
      have Z_b := BK.x
      have Z_n := U49.1
      refine f16_spec (l := l) (xb := xb) (lb := xl) (blocks.upd2 b5 U49 x0 y0) BK.x (by omega) nt6.wf.ok fun v21 h21 x21 o21 => ?_
      have n_x21 := Ext.n_le x21; try simp only [push_n, set_n] at n_x21
      simp (disch := first | assumption | omega | (simp only [push_n, set_n]; done) | (simp only [push_n, set_n]; omega) | fail) only [go_sem, ↓reduceIte, Nat.reduceEqDiff, Nat.reduceAdd, Nat.reduceMul, Int.reduceToNat, Int.reduceAdd, Int.reduceTDiv, Nat.reduceLeDiff, a1, a5, a7, a8, a9, a10, am]
      refine f33_spec (l := l) (yb := yb) (lb := yl) (BK.y.ext x21) nt6.tidy nt6.right (by omega) fun v22 h22 x22 o22 => ?_
      have n_x22 := Ext.n_le x22; try simp only [push_n, set_n] at n_x22
      simp (disch := first | assumption | omega | (simp only [push_n, set_n]; done) | (simp only [push_n, set_n]; omega) | fail) only [go_sem, ↓reduceIte, Nat.reduceEqDiff, Nat.reduceAdd, Nat.reduceMul, Int.reduceToNat, Int.reduceAdd, Int.reduceTDiv, Nat.reduceLeDiff, a1, a5, a7, a8, a9, a10, am]
      rw [words_word] at o21 o22
      refine f32_spec (xs := (tableM l).map Ck.enc) (ys := (tableM l).map Ck.enc) (o21.rs.mono x22) o22.rs (by rw [List.length_map, table_len]; omega) ?_
      rw [decide_eq_true rfl]
      simp (disch := first | assumption | omega | (simp only [push_n, set_n]; done) | (simp only [push_n, set_n]; omega) | fail) only [go_sem, ↓reduceIte, Nat.reduceEqDiff, Nat.reduceAdd, Nat.reduceMul, Int.reduceToNat, Int.reduceAdd, Int.reduceTDiv, Nat.reduceLeDiff, a1, a5, a7, a8, a9, a10, am]
      refine f35_spec (l := l) (xb := xb) (lb := xl) ((BK.x.ext x21).ext x22) (by omega) fun v23 h23 x23 o23 => ?_
      have n_x23 := Ext.n_le x23; try simp only [push_n, set_n] at n_x23
      simp (disch := first | assumption | omega | (simp only [push_n, set_n]; done) | (simp only [push_n, set_n]; omega) | fail) only [go_sem, ↓reduceIte, Nat.reduceEqDiff, Nat.reduceAdd, Nat.reduceMul, Int.reduceToNat, Int.reduceAdd, Int.reduceTDiv, Nat.reduceLeDiff, a1, a5, a7, a8, a9, a10, am]
      refine f36_spec (l := l) (yb := yb) (lb := yl) (((BK.y.ext x21).ext x22).ext x23) nt6.tidy (by omega) fun v24 h24 x24 o24 => ?_
      have n_x24 := Ext.n_le x24; try simp only [push_n, set_n] at n_x24
      simp (disch := first | assumption | omega | (simp only [push_n, set_n]; done) | (simp only [push_n, set_n]; omega) | fail) only [go_sem, ↓reduceIte, Nat.reduceEqDiff, Nat.reduceAdd, Nat.reduceMul, Int.reduceToNat, Int.reduceAdd, Int.reduceTDiv, Nat.reduceLeDiff, a1, a5, a7, a8, a9, a10, am]
      refine f34_spec (xs := rowsOf (frees l)) (o23.rs.mono x24) o24.rs (by have := rowsAux_length (frees l) 0 0; unfold rowsOf; rw [show (frees l).length = (l).length by simp [frees]] at this; omega) ?_
      simp (disch := first | assumption | omega | (simp only [push_n, set_n]; done) | (simp only [push_n, set_n]; omega) | fail) only [go_sem, ↓reduceIte, Nat.reduceEqDiff, Nat.reduceAdd, Nat.reduceMul, Int.reduceToNat, Int.reduceAdd, Int.reduceTDiv, Nat.reduceLeDiff, a1, a5, a7, a8, a9, a10, am]
      have xe : Ext _ h24 := ((x21.trans x22).trans x23).trans x24
      exact ⟨_, Nat.sub_lt_sub_left hin (Nat.lt_succ_self i), i + 1, l, P, w, rfl, by omega, hv.symm, rfl, rfl, U49.trans (Ext.upd2 xe), BK.ext xe, (OS.upd2 o6 (Ext.upd2 xK) xl4 yl4).ext xe, by omega, nt6, by omega⟩
  · obtain rfl : i = ops.length := by omega
    simp (disch := first | assumption | omega | (simp only [push_n, set_n]; done) | (simp only [push_n, set_n]; omega) | fail) only [go_sem, ↓reduceIte, Nat.reduceEqDiff, Nat.reduceAdd, Nat.reduceMul, Int.reduceToNat, Int.reduceAdd, Int.reduceTDiv, Nat.reduceLeDiff, ls, a1, a5, a7, a8, a9, a10, am]
    have Z_b := B6.x
    have Z_n := u6.1
    refine f16_spec (l := l) (xb := xb) (lb := xl) (blocks.upd2 b5 u6 x0 y0) B6.x (by omega) nt6.wf.ok fun v21 h21 x21 o21 => ?_
    have n_x21 := Ext.n_le x21; try simp only [push_n, set_n] at n_x21
    simp (disch := first | assumption | omega | (simp only [push_n, set_n]; done) | (simp only [push_n, set_n]; omega) | fail) only [go_sem, ↓reduceIte, Nat.reduceEqDiff, Nat.reduceAdd, Nat.reduceMul, Int.reduceToNat, Int.reduceAdd, Int.reduceTDiv, Nat.reduceLeDiff, a1, a5, a7, a8, a9, a10, am]
    refine f33_spec (l := l) (yb := yb) (lb := yl) (B6.y.ext x21) nt6.tidy nt6.right (by omega) fun v22 h22 x22 o22 => ?_
    have n_x22 := Ext.n_le x22; try simp only [push_n, set_n] at n_x22
    simp (disch := first | assumption | omega | (simp only [push_n, set_n]; done) | (simp only [push_n, set_n]; omega) | fail) only [go_sem, ↓reduceIte, Nat.reduceEqDiff, Nat.reduceAdd, Nat.reduceMul, Int.reduceToNat, Int.reduceAdd, Int.reduceTDiv, Nat.reduceLeDiff, a1, a5, a7, a8, a9, a10, am]
    rw [words_word] at o21 o22
    refine f32_spec (xs := (tableM l).map Ck.enc) (ys := (tableM l).map Ck.enc) (o21.rs.mono x22) o22.rs (by rw [List.length_map, table_len]; omega) ?_
    rw [decide_eq_true rfl]
    simp (disch := first | assumption | omega | (simp only [push_n, set_n]; done) | (simp only [push_n, set_n]; omega) | fail) only [go_sem, ↓reduceIte, Nat.reduceEqDiff, Nat.reduceAdd, Nat.reduceMul, Int.reduceToNat, Int.reduceAdd, Int.reduceTDiv, Nat.reduceLeDiff, a1, a5, a7, a8, a9, a10, am]
    refine f35_spec (l := l) (xb := xb) (lb := xl) ((B6.x.ext x21).ext x22) (by omega) fun v23 h23 x23 o23 => ?_
    have n_x23 := Ext.n_le x23; try simp only [push_n, set_n] at n_x23
    simp (disch := first | assumption | omega | (simp only [push_n, set_n]; done) | (simp only [push_n, set_n]; omega) | fail) only [go_sem, ↓reduceIte, Nat.reduceEqDiff, Nat.reduceAdd, Nat.reduceMul, Int.reduceToNat, Int.reduceAdd, Int.reduceTDiv, Nat.reduceLeDiff, a1, a5, a7, a8, a9, a10, am]
    refine f36_spec (l := l) (yb := yb) (lb := yl) (((B6.y.ext x21).ext x22).ext x23) nt6.tidy (by omega) fun v24 h24 x24 o24 => ?_
    have n_x24 := Ext.n_le x24; try simp only [push_n, set_n] at n_x24
    simp (disch := first | assumption | omega | (simp only [push_n, set_n]; done) | (simp only [push_n, set_n]; omega) | fail) only [go_sem, ↓reduceIte, Nat.reduceEqDiff, Nat.reduceAdd, Nat.reduceMul, Int.reduceToNat, Int.reduceAdd, Int.reduceTDiv, Nat.reduceLeDiff, a1, a5, a7, a8, a9, a10, am]
    refine f34_spec (xs := rowsOf (frees l)) (o23.rs.mono x24) o24.rs (by have := rowsAux_length (frees l) 0 0; unfold rowsOf; rw [show (frees l).length = (l).length by simp [frees]] at this; omega) ?_
    simp (disch := first | assumption | omega | (simp only [push_n, set_n]; done) | (simp only [push_n, set_n]; omega) | fail) only [go_sem, ↓reduceIte, Nat.reduceEqDiff, Nat.reduceAdd, Nat.reduceMul, Int.reduceToNat, Int.reduceAdd, Int.reduceTDiv, Nat.reduceLeDiff, a1, a5, a7, a8, a9, a10, am]
    have xe : Ext _ h24 := ((x21.trans x22).trans x23).trans x24
    exact q _
end Go.Am.YtdcppkhobfbpeaaDoor
