/-
  The statement IndexTable on the abstract machine.
-/
import Derived.Test.YtdcppkhobfbpeaaDoorD23
set_option linter.unusedVariables false
set_option linter.unusedSimpArgs false
namespace Go.Am.YtdcppkhobfbpeaaDoor
open Go Go.Am Go.Proofs

theorem ext_upd {h0 h1 h2 : Heap} {lb : Nat} (x : Ext h0 h1) (hl : h0.n ≤ lb) (u : Upd h1 h2 lb) : Ext h0 h2 :=
  ⟨Nat.le_trans x.1 u.1, fun i hi => (u.2 i (Nat.lt_of_lt_of_le hi x.1) (by omega)).trans (x.2 i hi)⟩
theorem words_enc {cs : List Ck} : cs.map Ck.word = (cs.map Ck.enc).map fun x => [ub x] := by rw [List.map_map]; rfl

set_option maxHeartbeats 2000000 in
theorem f8_spec {h : Heap} {Q : Value → Heap → Prop} {tv : Value} {ns : List Nat} (hb : blocks h) (hr : RS h 1 tv (ns.map u16C)) (h16 : ∀ n ∈ ns, n < 65536)
    (q : ∀ h', Q (.bool true) h') : WC T (.func (.func 8) #[] #[]) [tv] h Q := by
  refine WC_fn T8 rfl ?_
  have lt : ∀ H, lenE H tv = some (.int .i64 ns.length, H) := fun H => by have := hr.len (h' := H); simpa using this
  simp (disch := first | assumption | omega | (simp only [push_n, set_n]; done) | (simp only [push_n, set_n]; omega) | fail) only [go_sem, ↓reduceIte, Nat.reduceEqDiff, Nat.reduceAdd, Nat.reduceMul, Int.reduceToNat, Int.reduceAdd, Int.reduceTDiv, Nat.reduceLeDiff, ir8]
  refine f9_spec hb fun h1 x1 => ?_
  have n_x1 := Ext.n_le x1; try simp only [push_n, set_n] at n_x1
  by_cases h40 : 40 < ns.length
  · simp (disch := first | assumption | omega | (simp only [push_n, set_n]; done) | (simp only [push_n, set_n]; omega) | fail) only [go_sem, ↓reduceIte, Nat.reduceEqDiff, Nat.reduceAdd, Nat.reduceMul, Int.reduceToNat, Int.reduceAdd, Int.reduceTDiv, Nat.reduceLeDiff, lt]
    exact q _
  simp (disch := first | assumption | omega | (simp only [push_n, set_n]; done) | (simp only [push_n, set_n]; omega) | fail) only [go_sem, ↓reduceIte, Nat.reduceEqDiff, Nat.reduceAdd, Nat.reduceMul, Int.reduceToNat, Int.reduceAdd, Int.reduceTDiv, Nat.reduceLeDiff, lt]
  refine f11_spec (hr.mono x1) (by omega) h16 fun v h2 x2 o2 => ?_
  have n_x2 := Ext.n_le x2; try simp only [push_n, set_n] at n_x2
  have hg := madeM_good ns
  have hrt := madeM_right ns
  have b2 : blocks h2 := (hb.ext x1).ext x2
  have hb1 := hb.1
  have r2 := o2.rs
  have hvv : vb v = 0 ∨ h1.n ≤ vb v := by
    rcases o2.is with ⟨e, _⟩ | ⟨b, e, _, e2, _⟩
    · left; rw [e]; rfl
    · right; rw [e]; exact e2
  have hvl := rs_vb r2 (by omega)
  simp (disch := first | assumption | omega | (simp only [push_n, set_n]; done) | (simp only [push_n, set_n]; omega) | fail) only [go_sem, ↓reduceIte, Nat.reduceEqDiff, Nat.reduceAdd, Nat.reduceMul, Int.reduceToNat, Int.reduceAdd, Int.reduceTDiv, Nat.reduceLeDiff]
  refine f10_spec (cs := madeM ns) b2 r2 hg.ok (by have := hg.len; omega) ?_
  intro xb lb h3 x3 hxb hlb i3
  have n_x3 := Ext.n_le x3; try simp only [push_n, set_n] at n_x3
  have hml := hg.len
  change IX h3 xb lb (news (madeM ns)) at i3
  have c3 := news_calm ns
  have hnc := news_c (madeM ns)
  have hnl : (news (madeM ns)).length ≤ 20 := by simp [news]; exact hml
  have b3 : blocks h3 := b2.ext x3
  have hlb0 : lb ≠ 0 := by omega
  have hvlb : vb v ≠ lb := by omega
  have hnews : (madeM ns).map (fun c => (⟨c, 0#64⟩ : One)) = news (madeM ns) := rfl
  have hok := hg.ok
  have r3 := r2.mono x3
  generalize hl0 : news (madeM ns) = l at *
  generalize madeM ns = cs at *
  simp (disch := first | assumption | omega | (simp only [push_n, set_n]; done) | (simp only [push_n, set_n]; omega) | fail) only [go_sem, ↓reduceIte, Nat.reduceEqDiff, Nat.reduceAdd, Nat.reduceMul, Int.reduceToNat, Int.reduceAdd, Int.reduceTDiv, Nat.reduceLeDiff]
  refine f37_spec b3 r3 hok (by omega) fun w h4 x4 o4 => ?_
  have n_x4 := Ext.n_le x4; try simp only [push_n, set_n] at n_x4
  have r4 := r3.mono x4
  have i4 := i3.ext x4
  have b4 := b3.ext x4
  have w4 := o4.rs
  have hwv : vb w = 0 ∨ h3.n ≤ vb w := by
    rcases o4.is with ⟨e, _⟩ | ⟨b, e, _, e2, _⟩
    · left; rw [e]; rfl
    · right; rw [e]; exact e2
  have l3 := i3.ln
  have hwl : vb w ≠ lb := by omega
  have hlw : ∀ H, lenE H w = some (.int .i64 (blocksM cs).length, H) := fun H => by have := w4.len (h' := H); simpa using this
  have hbl : (blocksM cs).length ≤ 8 * cs.length := blocksFrom_length (i := 0) hok
  simp (disch := first | assumption | omega | (simp only [push_n, set_n]; done) | (simp only [push_n, set_n]; omega) | fail) only [go_sem, ↓reduceIte, Nat.reduceEqDiff, Nat.reduceAdd, Nat.reduceMul, Int.reduceToNat, Int.reduceAdd, Int.reduceTDiv, Nat.reduceLeDiff, hlw]
  refine WE_loop (fun m a h' => ∃ i : Nat, m = (blocksM cs).length - i ∧ i ≤ (blocksM cs).length ∧ a.get 3 = .bool true ∧ a.get 4 = v ∧ a.get 5 = .pointer (some ⟨xb, 0, none⟩) ∧ a.get 24 = w ∧ a.get 25 = .int .i64 (blocksM cs).length ∧ a.get 26 = .int .i64 i ∧ a.marks = [] ∧
    blocks h' ∧ RS h' 1 v (cs.map Ck.word) ∧ RS h' 3 w ((blocksM cs).map Bl.cells) ∧ IX h' xb lb l) ?_ (m := (blocksM cs).length) ⟨0, by omega, by omega, by simp (disch := first | assumption | omega | (simp only [push_n, set_n]; done) | (simp only [push_n, set_n]; omega) | fail) only [go_sem, ↓reduceIte, Nat.reduceEqDiff, Nat.reduceAdd, Nat.reduceMul, Int.reduceToNat, Int.reduceAdd, Int.reduceTDiv, Nat.reduceLeDiff], by simp (disch := first | assumption | omega | (simp only [push_n, set_n]; done) | (simp only [push_n, set_n]; omega) | fail) only [go_sem, ↓reduceIte, Nat.reduceEqDiff, Nat.reduceAdd, Nat.reduceMul, Int.reduceToNat, Int.reduceAdd, Int.reduceTDiv, Nat.reduceLeDiff], by simp (disch := first | assumption | omega | (simp only [push_n, set_n]; done) | (simp only [push_n, set_n]; omega) | fail) only [go_sem, ↓reduceIte, Nat.reduceEqDiff, Nat.reduceAdd, Nat.reduceMul, Int.reduceToNat, Int.reduceAdd, Int.reduceTDiv, Nat.reduceLeDiff], by simp (disch := first | assumption | omega | (simp only [push_n, set_n]; done) | (simp only [push_n, set_n]; omega) | fail) only [go_sem, ↓reduceIte, Nat.reduceEqDiff, Nat.reduceAdd, Nat.reduceMul, Int.reduceToNat, Int.reduceAdd, Int.reduceTDiv, Nat.reduceLeDiff], by simp (disch := first | assumption | omega | (simp only [push_n, set_n]; done) | (simp only [push_n, set_n]; omega) | fail) only [go_sem, ↓reduceIte, Nat.reduceEqDiff, Nat.reduceAdd, Nat.reduceMul, Int.reduceToNat, Int.reduceAdd, Int.reduceTDiv, Nat.reduceLeDiff], by simp (disch := first | assumption | omega | (simp only [push_n, set_n]; done) | (simp only [push_n, set_n]; omega) | fail) only [go_sem, ↓reduceIte, Nat.reduceEqDiff, Nat.reduceAdd, Nat.reduceMul, Int.reduceToNat, Int.reduceAdd, Int.reduceTDiv, Nat.reduceLeDiff], rfl, b4, r4, w4, i4⟩
  rintro m a h5 ⟨i, rfl, hil, a3, a4, a5, a24, a25, a26, am, b5, r5, w5, i5⟩
  by_cases hin : i < (blocksM cs).length
  · obtain ⟨bl, hbi⟩ : ∃ bl, (blocksM cs)[i]? = some bl := ⟨_, List.getElem?_eq_getElem hin⟩
    have hbm := List.mem_of_getElem? hbi
    obtain ⟨D, cc, e, ro, hw, hgD, hDn⟩ := w5.atM hin
    have hl := getAt_map (f := Bl.cells) (s := 3) (fun _ => rfl) hbi
    obtain ⟨l3', hf1, hf2, hcal, hlen3, hcnt⟩ := table_ok hnc c3 hrt hbm
    obtain ⟨hd, hkp⟩ := calm_drop c3 (plB bl)
    obtain ⟨ck, hck, hbk⟩ := mem_blocks hbm
    have hckok := hok ck (List.mem_of_getElem? hck)
    have hch : bl.chunk < 20 := by have := lt_of_get hck; omega
    have hwords : (∃ n, bl.words = n * 32 ∧ 1 ≤ n ∧ n ≤ 8191 ∧ bl.index = 0) ∨ (∃ k, k < 3 ∧ bl.words = blockOf k ∧ bl.index < 8) := by
      rcases (mem_blk hbk).2 with ⟨n, rfl, h1, h2⟩ | ⟨k, bb, rfl, h1, h2, _⟩
      · exact .inl ⟨n, h2, hckok.1, hckok.2, h1⟩
      · exact .inr ⟨k, hckok.1, h1, by have := (many_pos k hckok.1).2; omega⟩
    have e24 := a24
    rw [hw] at a24
    have p3 : blockOf 0 = 4 ∧ blockOf 1 = 8 ∧ blockOf 2 = 16 := ⟨rfl, rfl, rfl⟩
    obtain ⟨bch, bi, bw⟩ := bl
    simp only at hch hwords
    rcases hwords with ⟨n, rfl, hn1, hn2, rfl⟩ | ⟨k, hk, hbw, hbi8⟩
    · have hpl : plB ⟨bch, 0, n * 32⟩ = ⟨bch, 0, -1, n, false⟩ := plB_huge rfl hn1
      have hq : (((n * 32 : Nat) : Int)).tdiv 32 = n := by rw [Int.tdiv_eq_ediv_of_nonneg (by omega)]; omega
      simp (disch := first | assumption | omega | (simp only [push_n, set_n]; done) | (simp only [push_n, set_n]; omega) | fail) only [go_sem, ↓reduceIte, Nat.reduceEqDiff, Nat.reduceAdd, Nat.reduceMul, Int.reduceToNat, Int.reduceAdd, Int.reduceTDiv, Nat.reduceLeDiff, a3, a4, a5, a24, a25, a26, am, hgD, hl, Bl.cells]
      refine WE_unroll ?_
      simp (disch := first | assumption | omega | (simp only [push_n, set_n]; done) | (simp only [push_n, set_n]; omega) | fail) only [go_sem, ↓reduceIte, Nat.reduceEqDiff, Nat.reduceAdd, Nat.reduceMul, Int.reduceToNat, Int.reduceAdd, Int.reduceTDiv, Nat.reduceLeDiff, a3, a4, a5, a24, a25, a26, am]
      refine f40_spec (k := 0) ?_
      rw [p3.1]
      simp (disch := first | assumption | omega | (simp only [push_n, set_n]; done) | (simp only [push_n, set_n]; omega) | fail) only [go_sem, ↓reduceIte, Nat.reduceEqDiff, Nat.reduceAdd, Nat.reduceMul, Int.reduceToNat, Int.reduceAdd, Int.reduceTDiv, Nat.reduceLeDiff, a3, a4, a5, a24, a25, a26, am]
      refine WE_unroll ?_
      simp (disch := first | assumption | omega | (simp only [push_n, set_n]; done) | (simp only [push_n, set_n]; omega) | fail) only [go_sem, ↓reduceIte, Nat.reduceEqDiff, Nat.reduceAdd, Nat.reduceMul, Int.reduceToNat, Int.reduceAdd, Int.reduceTDiv, Nat.reduceLeDiff, a3, a4, a5, a24, a25, a26, am]
      refine f40_spec (k := 1) ?_
      rw [p3.2.1]
      simp (disch := first | assumption | omega | (simp only [push_n, set_n]; done) | (simp only [push_n, set_n]; omega) | fail) only [go_sem, ↓reduceIte, Nat.reduceEqDiff, Nat.reduceAdd, Nat.reduceMul, Int.reduceToNat, Int.reduceAdd, Int.reduceTDiv, Nat.reduceLeDiff, a3, a4, a5, a24, a25, a26, am]
      refine WE_unroll ?_
      simp (disch := first | assumption | omega | (simp only [push_n, set_n]; done) | (simp only [push_n, set_n]; omega) | fail) only [go_sem, ↓reduceIte, Nat.reduceEqDiff, Nat.reduceAdd, Nat.reduceMul, Int.reduceToNat, Int.reduceAdd, Int.reduceTDiv, Nat.reduceLeDiff, a3, a4, a5, a24, a25, a26, am]
      refine f40_spec (k := 2) ?_
      rw [p3.2.2]
      simp (disch := first | assumption | omega | (simp only [push_n, set_n]; done) | (simp only [push_n, set_n]; omega) | fail) only [go_sem, ↓reduceIte, Nat.reduceEqDiff, Nat.reduceAdd, Nat.reduceMul, Int.reduceToNat, Int.reduceAdd, Int.reduceTDiv, Nat.reduceLeDiff, a3, a4, a5, a24, a25, a26, am]
      refine WE_unroll ?_
      simp (disch := first | assumption | omega | (simp only [push_n, set_n]; done) | (simp only [push_n, set_n]; omega) | fail) only [go_sem, ↓reduceIte, Nat.reduceEqDiff, Nat.reduceAdd, Nat.reduceMul, Int.reduceToNat, Int.reduceAdd, Int.reduceTDiv, Nat.reduceLeDiff, a3, a4, a5, a24, a25, a26, am]
      simp (disch := first | assumption | omega | (simp only [push_n, set_n]; done) | (simp only [push_n, set_n]; omega) | fail) only [go_sem, ↓reduceIte, Nat.reduceEqDiff, Nat.reduceAdd, Nat.reduceMul, Int.reduceToNat, Int.reduceAdd, Int.reduceTDiv, Nat.reduceLeDiff, a3, a4, a5, a24, a25, a26, am, hq]
      rw [hpl] at hd hkp hf1 hf2
      refine f24_spec (p := (⟨bch, 0, -1, n, false⟩)) (l := l) (xb := xb) (lb := lb) (b5.ext (by repeat (first | assumption | exact Ext.refl _ | refine Ext.push ?_ | refine Ext.set ?_ (by omega) | refine Ext.trans ?_ (by assumption)))) (i5.ext (by repeat (first | assumption | exact Ext.refl _ | refine Ext.push ?_ | refine Ext.set ?_ (by omega) | refine Ext.trans ?_ (by assumption)))) (by omega) c3.fits ?_
      rw [hd]
      intro h6 u6 i6
      have n6 := u6.1
      simp only [push_n] at n6
      change IX h6 xb lb l at i6
      have b6 : blocks h6 := (b5.ext (h' := ((h5.push _).push _)) (by repeat (first | assumption | exact Ext.refl _ | refine Ext.push ?_ | refine Ext.set ?_ (by omega) | refine Ext.trans ?_ (by assumption)))).upd u6 hlb0
      have l5 := i5.ln
      simp (disch := first | assumption | omega | (simp only [push_n, set_n]; done) | (simp only [push_n, set_n]; omega) | fail) only [go_sem, ↓reduceIte, Nat.reduceEqDiff, Nat.reduceAdd, Nat.reduceMul, Int.reduceToNat, Int.reduceAdd, Int.reduceTDiv, Nat.reduceLeDiff, a3, a4, a5, a24, a25, a26, am, okM, u6.2]
      refine f13_spec (p := (⟨bch, 0, -1, n, false⟩)) (l := l) (xb := xb) (lb := lb) b6 i6 (by omega) ?_
      rw [hkp]
      intro h7 u7 i7
      have n7 := u7.1
      change IX h7 xb lb l at i7
      have b7 : blocks h7 := b6.upd u7 hlb0
      have r7 : RS h7 1 v (cs.map Ck.word) := rs_upd (rs_upd (r5.mono (by repeat (first | assumption | exact Ext.refl _ | refine Ext.push ?_ | refine Ext.set ?_ (by omega) | refine Ext.trans ?_ (by assumption)))) u6 hvlb) u7 hvlb
      have w7 : RS h7 3 w ((blocksM cs).map Bl.cells) := rs_upd (rs_upd (w5.mono (by repeat (first | assumption | exact Ext.refl _ | refine Ext.push ?_ | refine Ext.set ?_ (by omega) | refine Ext.trans ?_ (by assumption)))) u6 hwl) u7 hwl
      simp (disch := first | assumption | omega | (simp only [push_n, set_n]; done) | (simp only [push_n, set_n]; omega) | fail) only [go_sem, ↓reduceIte, Nat.reduceEqDiff, Nat.reduceAdd, Nat.reduceMul, Int.reduceToNat, Int.reduceAdd, Int.reduceTDiv, Nat.reduceLeDiff, a3, a4, a5, a24, a25, a26, am, okM, u6.2, u7.2]
      refine f10_spec (cs := cs) b7 r7 hok (by omega) ?_
      intro yb lb2 h8 x8 hyb hlb2 i8
      have n_x8 := Ext.n_le x8; try simp only [push_n, set_n] at n_x8
      have hcne : cs ≠ [] := by intro e; subst e; simp at hck
      have hlb3 := hlb2.resolve_left (fun e => hcne e.2)
      rw [hnews] at i8
      have b8 := b7.ext x8
      simp (disch := first | assumption | omega | (simp only [push_n, set_n]; done) | (simp only [push_n, set_n]; omega) | fail) only [go_sem, ↓reduceIte, Nat.reduceEqDiff, Nat.reduceAdd, Nat.reduceMul, Int.reduceToNat, Int.reduceAdd, Int.reduceTDiv, Nat.reduceLeDiff, a3, a4, a5, a24, a25, a26, am, okM, u6.2, u7.2, x8.2]
      refine f14_spec (p := (⟨bch, 0, -1, n, false⟩)) (l := l) (xb := yb) (lb := lb2) b8 i8 (by omega) c3.fits ?_
      rw [hf1]
      intro h9 u9 i9
      have n9 := u9.1
      change IX h9 yb lb2 l3' at i9
      have x79 : Ext h7 h9 := ext_upd x8 hlb3 u9
      simp (disch := first | assumption | omega | (simp only [push_n, set_n]; done) | (simp only [push_n, set_n]; omega) | fail) only [go_sem, ↓reduceIte, Nat.reduceEqDiff, Nat.reduceAdd, Nat.reduceMul, Int.reduceToNat, Int.reduceAdd, Int.reduceTDiv, Nat.reduceLeDiff, a3, a4, a5, a24, a25, a26, am, okM, u6.2, u7.2, x79.2]
      refine f14_spec (p := (⟨bch, 0, -1, n, false⟩)) (l := l3') (xb := yb) (lb := lb2) (b7.ext x79) i9 (by omega) hcal.fits ?_
      rw [hf2]
      intro h10 u10 i10
      have n10 := u10.1
      change IX h10 yb lb2 l3' at i10
      have x710 : Ext h7 h10 := ext_upd x79 hlb3 u10
      simp (disch := first | assumption | omega | (simp only [push_n, set_n]; done) | (simp only [push_n, set_n]; omega) | fail) only [go_sem, ↓reduceIte, Nat.reduceEqDiff, Nat.reduceAdd, Nat.reduceMul, Int.reduceToNat, Int.reduceAdd, Int.reduceTDiv, Nat.reduceLeDiff, a3, a4, a5, a24, a25, a26, am, okM, u6.2, u7.2, x710.2]
      refine f16_spec (l := l3') (xb := yb) (lb := lb2) (b7.ext x710) i10 (by omega) hcal.ok fun v11 h11 x11 o11 => ?_
      have n_x11 := Ext.n_le x11; try simp only [push_n, set_n] at n_x11
      rw [calm_table hcal] at o11
      have hok3 : ∀ c ∈ l3'.map One.c, c.ok := fun c hc => by obtain ⟨o, ho, rfl⟩ := List.mem_map.1 hc; exact hcal.ok o ho
      have hln3 : (l3'.map One.c).length ≤ 20 := by rw [List.length_map]; omega
      simp (disch := first | assumption | omega | (simp only [push_n, set_n]; done) | (simp only [push_n, set_n]; omega) | fail) only [go_sem, ↓reduceIte, Nat.reduceEqDiff, Nat.reduceAdd, Nat.reduceMul, Int.reduceToNat, Int.reduceAdd, Int.reduceTDiv, Nat.reduceLeDiff, a3, a4, a5, a24, a25, a26, am, okM, u6.2, u7.2, x710.2]
      refine f37_spec (cs := l3'.map One.c) ((b7.ext x710).ext x11) o11.rs hok3 (by omega) fun v12 h12 x12 o12 => ?_
      have n_x12 := Ext.n_le x12; try simp only [push_n, set_n] at n_x12
      have hl12 : lenE h12 v12 = some (.int .i64 (blocksM (l3'.map One.c)).length, h12) := by have := o12.rs.len (h' := h12); simpa using this
      have x712 : Ext h7 h12 := (x710.trans x11).trans x12
      simp (disch := first | assumption | omega | (simp only [push_n, set_n]; done) | (simp only [push_n, set_n]; omega) | fail) only [go_sem, ↓reduceIte, Nat.reduceEqDiff, Nat.reduceAdd, Nat.reduceMul, Int.reduceToNat, Int.reduceAdd, Int.reduceTDiv, Nat.reduceLeDiff, a3, a4, a5, a24, a25, a26, am, hl12]
      refine f37_spec (cs := cs) (b7.ext x712) (r7.mono x712) hok (by omega) fun v13 h13 x13 o13 => ?_
      have n_x13 := Ext.n_le x13; try simp only [push_n, set_n] at n_x13
      have hl13 : lenE h13 v13 = some (.int .i64 (blocksM cs).length, h13) := by have := o13.rs.len (h' := h13); simpa using this
      have x713 : Ext h7 h13 := x712.trans x13
      simp (disch := first | assumption | omega | (simp only [push_n, set_n]; done) | (simp only [push_n, set_n]; omega) | fail) only [go_sem, ↓reduceIte, Nat.reduceEqDiff, Nat.reduceAdd, Nat.reduceMul, Int.reduceToNat, Int.reduceAdd, Int.reduceTDiv, Nat.reduceLeDiff, a3, a4, a5, a24, a25, a26, am, hl13]
      exact ⟨_, Nat.sub_lt_sub_left hin (Nat.lt_succ_self i), i + 1, rfl, by omega, hw.symm, rfl, b7.ext x713, r7.mono x713, w7.mono x713, i7.ext x713⟩
    · have hpl : plB ⟨bch, bi, bw⟩ = ⟨bch, bi, k, 0, false⟩ := plB_run hbw hk
      have : k = 0 ∨ k = 1 ∨ k = 2 := by omega
      rcases this with rfl | rfl | rfl
      · obtain rfl : bw = 4 := hbw
        simp (disch := first | assumption | omega | (simp only [push_n, set_n]; done) | (simp only [push_n, set_n]; omega) | fail) only [go_sem, ↓reduceIte, Nat.reduceEqDiff, Nat.reduceAdd, Nat.reduceMul, Int.reduceToNat, Int.reduceAdd, Int.reduceTDiv, Nat.reduceLeDiff, a3, a4, a5, a24, a25, a26, am, hgD, hl, Bl.cells]
        refine WE_unroll ?_
        simp (disch := first | assumption | omega | (simp only [push_n, set_n]; done) | (simp only [push_n, set_n]; omega) | fail) only [go_sem, ↓reduceIte, Nat.reduceEqDiff, Nat.reduceAdd, Nat.reduceMul, Int.reduceToNat, Int.reduceAdd, Int.reduceTDiv, Nat.reduceLeDiff, a3, a4, a5, a24, a25, a26, am]
        refine f40_spec (k := 0) ?_
        rw [p3.1]
        simp (disch := first | assumption | omega | (simp only [push_n, set_n]; done) | (simp only [push_n, set_n]; omega) | fail) only [go_sem, ↓reduceIte, Nat.reduceEqDiff, Nat.reduceAdd, Nat.reduceMul, Int.reduceToNat, Int.reduceAdd, Int.reduceTDiv, Nat.reduceLeDiff, a3, a4, a5, a24, a25, a26, am]
        refine WE_unroll ?_
        simp (disch := first | assumption | omega | (simp only [push_n, set_n]; done) | (simp only [push_n, set_n]; omega) | fail) only [go_sem, ↓reduceIte, Nat.reduceEqDiff, Nat.reduceAdd, Nat.reduceMul, Int.reduceToNat, Int.reduceAdd, Int.reduceTDiv, Nat.reduceLeDiff, a3, a4, a5, a24, a25, a26, am]
        refine f40_spec (k := 1) ?_
        rw [p3.2.1]
        simp (disch := first | assumption | omega | (simp only [push_n, set_n]; done) | (simp only [push_n, set_n]; omega) | fail) only [go_sem, ↓reduceIte, Nat.reduceEqDiff, Nat.reduceAdd, Nat.reduceMul, Int.reduceToNat, Int.reduceAdd, Int.reduceTDiv, Nat.reduceLeDiff, a3, a4, a5, a24, a25, a26, am]
        refine WE_unroll ?_
        simp (disch := first | assumption | omega | (simp only [push_n, set_n]; done) | (simp only [push_n, set_n]; omega) | fail) only [go_sem, ↓reduceIte, Nat.reduceEqDiff, Nat.reduceAdd, Nat.reduceMul, Int.reduceToNat, Int.reduceAdd, Int.reduceTDiv, Nat.reduceLeDiff, a3, a4, a5, a24, a25, a26, am]
        refine f40_spec (k := 2) ?_
        rw [p3.2.2]
        simp (disch := first | assumption | omega | (simp only [push_n, set_n]; done) | (simp only [push_n, set_n]; omega) | fail) only [go_sem, ↓reduceIte, Nat.reduceEqDiff, Nat.reduceAdd, Nat.reduceMul, Int.reduceToNat, Int.reduceAdd, Int.reduceTDiv, Nat.reduceLeDiff, a3, a4, a5, a24, a25, a26, am]
        refine WE_unroll ?_
        simp (disch := first | assumption | omega | (simp only [push_n, set_n]; done) | (simp only [push_n, set_n]; omega) | fail) only [go_sem, ↓reduceIte, Nat.reduceEqDiff, Nat.reduceAdd, Nat.reduceMul, Int.reduceToNat, Int.reduceAdd, Int.reduceTDiv, Nat.reduceLeDiff, a3, a4, a5, a24, a25, a26, am]
        rw [hpl] at hd hkp hf1 hf2
        refine f24_spec (p := (⟨bch, bi, (0 : Nat), 0, false⟩)) (l := l) (xb := xb) (lb := lb) (b5.ext (by repeat (first | assumption | exact Ext.refl _ | refine Ext.push ?_ | refine Ext.set ?_ (by omega) | refine Ext.trans ?_ (by assumption)))) (i5.ext (by repeat (first | assumption | exact Ext.refl _ | refine Ext.push ?_ | refine Ext.set ?_ (by omega) | refine Ext.trans ?_ (by assumption)))) (by omega) c3.fits ?_
        rw [hd]
        intro h6 u6 i6
        have n6 := u6.1
        simp only [push_n] at n6
        change IX h6 xb lb l at i6
        have b6 : blocks h6 := (b5.ext (h' := ((h5.push _).push _)) (by repeat (first | assumption | exact Ext.refl _ | refine Ext.push ?_ | refine Ext.set ?_ (by omega) | refine Ext.trans ?_ (by assumption)))).upd u6 hlb0
        have l5 := i5.ln
        simp (disch := first | assumption | omega | (simp only [push_n, set_n]; done) | (simp only [push_n, set_n]; omega) | fail) only [go_sem, ↓reduceIte, Nat.reduceEqDiff, Nat.reduceAdd, Nat.reduceMul, Int.reduceToNat, Int.reduceAdd, Int.reduceTDiv, Nat.reduceLeDiff, a3, a4, a5, a24, a25, a26, am, okM, u6.2]
        refine f13_spec (p := (⟨bch, bi, (0 : Nat), 0, false⟩)) (l := l) (xb := xb) (lb := lb) b6 i6 (by omega) ?_
        rw [hkp]
        intro h7 u7 i7
        have n7 := u7.1
        change IX h7 xb lb l at i7
        have b7 : blocks h7 := b6.upd u7 hlb0
        have r7 : RS h7 1 v (cs.map Ck.word) := rs_upd (rs_upd (r5.mono (by repeat (first | assumption | exact Ext.refl _ | refine Ext.push ?_ | refine Ext.set ?_ (by omega) | refine Ext.trans ?_ (by assumption)))) u6 hvlb) u7 hvlb
        have w7 : RS h7 3 w ((blocksM cs).map Bl.cells) := rs_upd (rs_upd (w5.mono (by repeat (first | assumption | exact Ext.refl _ | refine Ext.push ?_ | refine Ext.set ?_ (by omega) | refine Ext.trans ?_ (by assumption)))) u6 hwl) u7 hwl
        simp (disch := first | assumption | omega | (simp only [push_n, set_n]; done) | (simp only [push_n, set_n]; omega) | fail) only [go_sem, ↓reduceIte, Nat.reduceEqDiff, Nat.reduceAdd, Nat.reduceMul, Int.reduceToNat, Int.reduceAdd, Int.reduceTDiv, Nat.reduceLeDiff, a3, a4, a5, a24, a25, a26, am, okM, u6.2, u7.2]
        refine f10_spec (cs := cs) b7 r7 hok (by omega) ?_
        intro yb lb2 h8 x8 hyb hlb2 i8
        have n_x8 := Ext.n_le x8; try simp only [push_n, set_n] at n_x8
        have hcne : cs ≠ [] := by intro e; subst e; simp at hck
        have hlb3 := hlb2.resolve_left (fun e => hcne e.2)
        rw [hnews] at i8
        have b8 := b7.ext x8
        simp (disch := first | assumption | omega | (simp only [push_n, set_n]; done) | (simp only [push_n, set_n]; omega) | fail) only [go_sem, ↓reduceIte, Nat.reduceEqDiff, Nat.reduceAdd, Nat.reduceMul, Int.reduceToNat, Int.reduceAdd, Int.reduceTDiv, Nat.reduceLeDiff, a3, a4, a5, a24, a25, a26, am, okM, u6.2, u7.2, x8.2]
        refine f14_spec (p := (⟨bch, bi, (0 : Nat), 0, false⟩)) (l := l) (xb := yb) (lb := lb2) b8 i8 (by omega) c3.fits ?_
        rw [hf1]
        intro h9 u9 i9
        have n9 := u9.1
        change IX h9 yb lb2 l3' at i9
        have x79 : Ext h7 h9 := ext_upd x8 hlb3 u9
        simp (disch := first | assumption | omega | (simp only [push_n, set_n]; done) | (simp only [push_n, set_n]; omega) | fail) only [go_sem, ↓reduceIte, Nat.reduceEqDiff, Nat.reduceAdd, Nat.reduceMul, Int.reduceToNat, Int.reduceAdd, Int.reduceTDiv, Nat.reduceLeDiff, a3, a4, a5, a24, a25, a26, am, okM, u6.2, u7.2, x79.2]
        refine f14_spec (p := (⟨bch, bi, (0 : Nat), 0, false⟩)) (l := l3') (xb := yb) (lb := lb2) (b7.ext x79) i9 (by omega) hcal.fits ?_
        rw [hf2]
        intro h10 u10 i10
        have n10 := u10.1
        change IX h10 yb lb2 l3' at i10
        have x710 : Ext h7 h10 := ext_upd x79 hlb3 u10
        simp (disch := first | assumption | omega | (simp only [push_n, set_n]; done) | (simp only [push_n, set_n]; omega) | fail) only [go_sem, ↓reduceIte, Nat.reduceEqDiff, Nat.reduceAdd, Nat.reduceMul, Int.reduceToNat, Int.reduceAdd, Int.reduceTDiv, Nat.reduceLeDiff, a3, a4, a5, a24, a25, a26, am, okM, u6.2, u7.2, x710.2]
        refine f16_spec (l := l3') (xb := yb) (lb := lb2) (b7.ext x710) i10 (by omega) hcal.ok fun v11 h11 x11 o11 => ?_
        have n_x11 := Ext.n_le x11; try simp only [push_n, set_n] at n_x11
        rw [calm_table hcal] at o11
        have hok3 : ∀ c ∈ l3'.map One.c, c.ok := fun c hc => by obtain ⟨o, ho, rfl⟩ := List.mem_map.1 hc; exact hcal.ok o ho
        have hln3 : (l3'.map One.c).length ≤ 20 := by rw [List.length_map]; omega
        simp (disch := first | assumption | omega | (simp only [push_n, set_n]; done) | (simp only [push_n, set_n]; omega) | fail) only [go_sem, ↓reduceIte, Nat.reduceEqDiff, Nat.reduceAdd, Nat.reduceMul, Int.reduceToNat, Int.reduceAdd, Int.reduceTDiv, Nat.reduceLeDiff, a3, a4, a5, a24, a25, a26, am, okM, u6.2, u7.2, x710.2]
        refine f37_spec (cs := l3'.map One.c) ((b7.ext x710).ext x11) o11.rs hok3 (by omega) fun v12 h12 x12 o12 => ?_
        have n_x12 := Ext.n_le x12; try simp only [push_n, set_n] at n_x12
        have hl12 : lenE h12 v12 = some (.int .i64 (blocksM (l3'.map One.c)).length, h12) := by have := o12.rs.len (h' := h12); simpa using this
        have x712 : Ext h7 h12 := (x710.trans x11).trans x12
        simp (disch := first | assumption | omega | (simp only [push_n, set_n]; done) | (simp only [push_n, set_n]; omega) | fail) only [go_sem, ↓reduceIte, Nat.reduceEqDiff, Nat.reduceAdd, Nat.reduceMul, Int.reduceToNat, Int.reduceAdd, Int.reduceTDiv, Nat.reduceLeDiff, a3, a4, a5, a24, a25, a26, am, hl12]
        refine f37_spec (cs := cs) (b7.ext x712) (r7.mono x712) hok (by omega) fun v13 h13 x13 o13 => ?_
        have n_x13 := Ext.n_le x13; try simp only [push_n, set_n] at n_x13
        have hl13 : lenE h13 v13 = some (.int .i64 (blocksM cs).length, h13) := by have := o13.rs.len (h' := h13); simpa using this
        have x713 : Ext h7 h13 := x712.trans x13
        simp (disch := first | assumption | omega | (simp only [push_n, set_n]; done) | (simp only [push_n, set_n]; omega) | fail) only [go_sem, ↓reduceIte, Nat.reduceEqDiff, Nat.reduceAdd, Nat.reduceMul, Int.reduceToNat, Int.reduceAdd, Int.reduceTDiv, Nat.reduceLeDiff, a3, a4, a5, a24, a25, a26, am, hl13]
        exact ⟨_, Nat.sub_lt_sub_left hin (Nat.lt_succ_self i), i + 1, rfl, by omega, hw.symm, rfl, b7.ext x713, r7.mono x713, w7.mono x713, i7.ext x713⟩
      · obtain rfl : bw = 8 := hbw
        simp (disch := first | assumption | omega | (simp only [push_n, set_n]; done) | (simp only [push_n, set_n]; omega) | fail) only [go_sem, ↓reduceIte, Nat.reduceEqDiff, Nat.reduceAdd, Nat.reduceMul, Int.reduceToNat, Int.reduceAdd, Int.reduceTDiv, Nat.reduceLeDiff, a3, a4, a5, a24, a25, a26, am, hgD, hl, Bl.cells]
        refine WE_unroll ?_
        simp (disch := first | assumption | omega | (simp only [push_n, set_n]; done) | (simp only [push_n, set_n]; omega) | fail) only [go_sem, ↓reduceIte, Nat.reduceEqDiff, Nat.reduceAdd, Nat.reduceMul, Int.reduceToNat, Int.reduceAdd, Int.reduceTDiv, Nat.reduceLeDiff, a3, a4, a5, a24, a25, a26, am]
        refine f40_spec (k := 0) ?_
        rw [p3.1]
        simp (disch := first | assumption | omega | (simp only [push_n, set_n]; done) | (simp only [push_n, set_n]; omega) | fail) only [go_sem, ↓reduceIte, Nat.reduceEqDiff, Nat.reduceAdd, Nat.reduceMul, Int.reduceToNat, Int.reduceAdd, Int.reduceTDiv, Nat.reduceLeDiff, a3, a4, a5, a24, a25, a26, am]
        refine WE_unroll ?_
        simp (disch := first | assumption | omega | (simp only [push_n, set_n]; done) | (simp only [push_n, set_n]; omega) | fail) only [go_sem, ↓reduceIte, Nat.reduceEqDiff, Nat.reduceAdd, Nat.reduceMul, Int.reduceToNat, Int.reduceAdd, Int.reduceTDiv, Nat.reduceLeDiff, a3, a4, a5, a24, a25, a26, am]
        refine f40_spec (k := 1) ?_
        rw [p3.2.1]
        simp (disch := first | assumption | omega | (simp only [push_n, set_n]; done) | (simp only [push_n, set_n]; omega) | fail) only [go_sem, ↓reduceIte, Nat.reduceEqDiff, Nat.reduceAdd, Nat.reduceMul, Int.reduceToNat, Int.reduceAdd, Int.reduceTDiv, Nat.reduceLeDiff, a3, a4, a5, a24, a25, a26, am]
        refine WE_unroll ?_
        simp (disch := first | assumption | omega | (simp only [push_n, set_n]; done) | (simp only [push_n, set_n]; omega) | fail) only [go_sem, ↓reduceIte, Nat.reduceEqDiff, Nat.reduceAdd, Nat.reduceMul, Int.reduceToNat, Int.reduceAdd, Int.reduceTDiv, Nat.reduceLeDiff, a3, a4, a5, a24, a25, a26, am]
        refine f40_spec (k := 2) ?_
        rw [p3.2.2]
        simp (disch := first | assumption | omega | (simp only [push_n, set_n]; done) | (simp only [push_n, set_n]; omega) | fail) only [go_sem, ↓reduceIte, Nat.reduceEqDiff, Nat.reduceAdd, Nat.reduceMul, Int.reduceToNat, Int.reduceAdd, Int.reduceTDiv, Nat.reduceLeDiff, a3, a4, a5, a24, a25, a26, am]
        refine WE_unroll ?_
        simp (disch := first | assumption | omega | (simp only [push_n, set_n]; done) | (simp only [push_n, set_n]; omega) | fail) only [go_sem, ↓reduceIte, Nat.reduceEqDiff, Nat.reduceAdd, Nat.reduceMul, Int.reduceToNat, Int.reduceAdd, Int.reduceTDiv, Nat.reduceLeDiff, a3, a4, a5, a24, a25, a26, am]
        rw [hpl] at hd hkp hf1 hf2
        refine f24_spec (p := (⟨bch, bi, (1 : Nat), 0, false⟩)) (l := l) (xb := xb) (lb := lb) (b5.ext (by repeat (first | assumption | exact Ext.refl _ | refine Ext.push ?_ | refine Ext.set ?_ (by omega) | refine Ext.trans ?_ (by assumption)))) (i5.ext (by repeat (first | assumption | exact Ext.refl _ | refine Ext.push ?_ | refine Ext.set ?_ (by omega) | refine Ext.trans ?_ (by assumption)))) (by omega) c3.fits ?_
        rw [hd]
        intro h6 u6 i6
        have n6 := u6.1
        simp only [push_n] at n6
        change IX h6 xb lb l at i6
        have b6 : blocks h6 := (b5.ext (h' := ((h5.push _).push _)) (by repeat (first | assumption | exact Ext.refl _ | refine Ext.push ?_ | refine Ext.set ?_ (by omega) | refine Ext.trans ?_ (by assumption)))).upd u6 hlb0
        have l5 := i5.ln
        simp (disch := first | assumption | omega | (simp only [push_n, set_n]; done) | (simp only [push_n, set_n]; omega) | fail) only [go_sem, ↓reduceIte, Nat.reduceEqDiff, Nat.reduceAdd, Nat.reduceMul, Int.reduceToNat, Int.reduceAdd, Int.reduceTDiv, Nat.reduceLeDiff, a3, a4, a5, a24, a25, a26, am, okM, u6.2]
        refine f13_spec (p := (⟨bch, bi, (1 : Nat), 0, false⟩)) (l := l) (xb := xb) (lb := lb) b6 i6 (by omega) ?_
        rw [hkp]
        intro h7 u7 i7
        have n7 := u7.1
        change IX h7 xb lb l at i7
        have b7 : blocks h7 := b6.upd u7 hlb0
        have r7 : RS h7 1 v (cs.map Ck.word) := rs_upd (rs_upd (r5.mono (by repeat (first | assumption | exact Ext.refl _ | refine Ext.push ?_ | refine Ext.set ?_ (by omega) | refine Ext.trans ?_ (by assumption)))) u6 hvlb) u7 hvlb
        have w7 : RS h7 3 w ((blocksM cs).map Bl.cells) := rs_upd (rs_upd (w5.mono (by repeat (first | assumption | exact Ext.refl _ | refine Ext.push ?_ | refine Ext.set ?_ (by omega) | refine Ext.trans ?_ (by assumption)))) u6 hwl) u7 hwl
        simp (disch := first | assumption | omega | (simp only [push_n, set_n]; done) | (simp only [push_n, set_n]; omega) | fail) only [go_sem, ↓reduceIte, Nat.reduceEqDiff, Nat.reduceAdd, Nat.reduceMul, Int.reduceToNat, Int.reduceAdd, Int.reduceTDiv, Nat.reduceLeDiff, a3, a4, a5, a24, a25, a26, am, okM, u6.2, u7.2]
        refine f10_spec (cs := cs) b7 r7 hok (by omega) ?_
        intro yb lb2 h8 x8 hyb hlb2 i8
        have n_x8 := Ext.n_le x8; try simp only [push_n, set_n] at n_x8
        have hcne : cs ≠ [] := by intro e; subst e; simp at hck
        have hlb3 := hlb2.resolve_left (fun e => hcne e.2)
        rw [hnews] at i8
        have b8 := b7.ext x8
        simp (disch := first | assumption | omega | (simp only [push_n, set_n]; done) | (simp only [push_n, set_n]; omega) | fail) only [go_sem, ↓reduceIte, Nat.reduceEqDiff, Nat.reduceAdd, Nat.reduceMul, Int.reduceToNat, Int.reduceAdd, Int.reduceTDiv, Nat.reduceLeDiff, a3, a4, a5, a24, a25, a26, am, okM, u6.2, u7.2, x8.2]
        refine f14_spec (p := (⟨bch, bi, (1 : Nat), 0, false⟩)) (l := l) (xb := yb) (lb := lb2) b8 i8 (by omega) c3.fits ?_
        rw [hf1]
        intro h9 u9 i9
        have n9 := u9.1
        change IX h9 yb lb2 l3' at i9
        have x79 : Ext h7 h9 := ext_upd x8 hlb3 u9
        simp (disch := first | assumption | omega | (simp only [push_n, set_n]; done) | (simp only [push_n, set_n]; omega) | fail) only [go_sem, ↓reduceIte, Nat.reduceEqDiff, Nat.reduceAdd, Nat.reduceMul, Int.reduceToNat, Int.reduceAdd, Int.reduceTDiv, Nat.reduceLeDiff, a3, a4, a5, a24, a25, a26, am, okM, u6.2, u7.2, x79.2]
        refine f14_spec (p := (⟨bch, bi, (1 : Nat), 0, false⟩)) (l := l3') (xb := yb) (lb := lb2) (b7.ext x79) i9 (by omega) hcal.fits ?_
        rw [hf2]
        intro h10 u10 i10
        have n10 := u10.1
        change IX h10 yb lb2 l3' at i10
        have x710 : Ext h7 h10 := ext_upd x79 hlb3 u10
        simp (disch := first | assumption | omega | (simp only [push_n, set_n]; done) | (simp only [push_n, set_n]; omega) | fail) only [go_sem, ↓reduceIte, Nat.reduceEqDiff, Nat.reduceAdd, Nat.reduceMul, Int.reduceToNat, Int.reduceAdd, Int.reduceTDiv, Nat.reduceLeDiff, a3, a4, a5, a24, a25, a26, am, okM, u6.2, u7.2, x710.2]
        refine f16_spec (l := l3') (xb := yb) (lb := lb2) (b7.ext x710) i10 (by omega) hcal.ok fun v11 h11 x11 o11 => ?_
        have n_x11 := Ext.n_le x11; try simp only [push_n, set_n] at n_x11
        rw [calm_table hcal] at o11
        have hok3 : ∀ c ∈ l3'.map One.c, c.ok := fun c hc => by obtain ⟨o, ho, rfl⟩ := List.mem_map.1 hc; exact hcal.ok o ho
        have hln3 : (l3'.map One.c).length ≤ 20 := by rw [List.length_map]; omega
        simp (disch := first | assumption | omega | (simp only [push_n, set_n]; done) | (simp only [push_n, set_n]; omega) | fail) only [go_sem, ↓reduceIte, Nat.reduceEqDiff, Nat.reduceAdd, Nat.reduceMul, Int.reduceToNat, Int.reduceAdd, Int.reduceTDiv, Nat.reduceLeDiff, a3, a4, a5, a24, a25, a26, am, okM, u6.2, u7.2, x710.2]
        refine f37_spec (cs := l3'.map One.c) ((b7.ext x710).ext x11) o11.rs hok3 (by omega) fun v12 h12 x12 o12 => ?_
        have n_x12 := Ext.n_le x12; try simp only [push_n, set_n] at n_x12
        have hl12 : lenE h12 v12 = some (.int .i64 (blocksM (l3'.map One.c)).length, h12) := by have := o12.rs.len (h' := h12); simpa using this
        have x712 : Ext h7 h12 := (x710.trans x11).trans x12
        simp (disch := first | assumption | omega | (simp only [push_n, set_n]; done) | (simp only [push_n, set_n]; omega) | fail) only [go_sem, ↓reduceIte, Nat.reduceEqDiff, Nat.reduceAdd, Nat.reduceMul, Int.reduceToNat, Int.reduceAdd, Int.reduceTDiv, Nat.reduceLeDiff, a3, a4, a5, a24, a25, a26, am, hl12]
        refine f37_spec (cs := cs) (b7.ext x712) (r7.mono x712) hok (by omega) fun v13 h13 x13 o13 => ?_
        have n_x13 := Ext.n_le x13; try simp only [push_n, set_n] at n_x13
        have hl13 : lenE h13 v13 = some (.int .i64 (blocksM cs).length, h13) := by have := o13.rs.len (h' := h13); simpa using this
        have x713 : Ext h7 h13 := x712.trans x13
        simp (disch := first | assumption | omega | (simp only [push_n, set_n]; done) | (simp only [push_n, set_n]; omega) | fail) only [go_sem, ↓reduceIte, Nat.reduceEqDiff, Nat.reduceAdd, Nat.reduceMul, Int.reduceToNat, Int.reduceAdd, Int.reduceTDiv, Nat.reduceLeDiff, a3, a4, a5, a24, a25, a26, am, hl13]
        exact ⟨_, Nat.sub_lt_sub_left hin (Nat.lt_succ_self i), i + 1, rfl, by omega, hw.symm, rfl, b7.ext x713, r7.mono x713, w7.mono x713, i7.ext x713⟩
      · obtain rfl : bw = 16 := hbw
        simp (disch := first | assumption | omega | (simp only [push_n, set_n]; done) | (simp only [push_n, set_n]; omega) | fail) only [go_sem, ↓reduceIte, Nat.reduceEqDiff, Nat.reduceAdd, Nat.reduceMul, Int.reduceToNat, Int.reduceAdd, Int.reduceTDiv, Nat.reduceLeDiff, a3, a4, a5, a24, a25, a26, am, hgD, hl, Bl.cells]
        refine WE_unroll ?_
        simp (disch := first | assumption | omega | (simp only [push_n, set_n]; done) | (simp only [push_n, set_n]; omega) | fail) only [go_sem, ↓reduceIte, Nat.reduceEqDiff, Nat.reduceAdd, Nat.reduceMul, Int.reduceToNat, Int.reduceAdd, Int.reduceTDiv, Nat.reduceLeDiff, a3, a4, a5, a24, a25, a26, am]
        refine f40_spec (k := 0) ?_
        rw [p3.1]
        simp (disch := first | assumption | omega | (simp only [push_n, set_n]; done) | (simp only [push_n, set_n]; omega) | fail) only [go_sem, ↓reduceIte, Nat.reduceEqDiff, Nat.reduceAdd, Nat.reduceMul, Int.reduceToNat, Int.reduceAdd, Int.reduceTDiv, Nat.reduceLeDiff, a3, a4, a5, a24, a25, a26, am]
        refine WE_unroll ?_
        simp (disch := first | assumption | omega | (simp only [push_n, set_n]; done) | (simp only [push_n, set_n]; omega) | fail) only [go_sem, ↓reduceIte, Nat.reduceEqDiff, Nat.reduceAdd, Nat.reduceMul, Int.reduceToNat, Int.reduceAdd, Int.reduceTDiv, Nat.reduceLeDiff, a3, a4, a5, a24, a25, a26, am]
        refine f40_spec (k := 1) ?_
        rw [p3.2.1]
        simp (disch := first | assumption | omega | (simp only [push_n, set_n]; done) | (simp only [push_n, set_n]; omega) | fail) only [go_sem, ↓reduceIte, Nat.reduceEqDiff, Nat.reduceAdd, Nat.reduceMul, Int.reduceToNat, Int.reduceAdd, Int.reduceTDiv, Nat.reduceLeDiff, a3, a4, a5, a24, a25, a26, am]
        refine WE_unroll ?_
        simp (disch := first | assumption | omega | (simp only [push_n, set_n]; done) | (simp only [push_n, set_n]; omega) | fail) only [go_sem, ↓reduceIte, Nat.reduceEqDiff, Nat.reduceAdd, Nat.reduceMul, Int.reduceToNat, Int.reduceAdd, Int.reduceTDiv, Nat.reduceLeDiff, a3, a4, a5, a24, a25, a26, am]
        refine f40_spec (k := 2) ?_
        rw [p3.2.2]
        simp (disch := first | assumption | omega | (simp only [push_n, set_n]; done) | (simp only [push_n, set_n]; omega) | fail) only [go_sem, ↓reduceIte, Nat.reduceEqDiff, Nat.reduceAdd, Nat.reduceMul, Int.reduceToNat, Int.reduceAdd, Int.reduceTDiv, Nat.reduceLeDiff, a3, a4, a5, a24, a25, a26, am]
        refine WE_unroll ?_
        simp (disch := first | assumption | omega | (simp only [push_n, set_n]; done) | (simp only [push_n, set_n]; omega) | fail) only [go_sem, ↓reduceIte, Nat.reduceEqDiff, Nat.reduceAdd, Nat.reduceMul, Int.reduceToNat, Int.reduceAdd, Int.reduceTDiv, Nat.reduceLeDiff, a3, a4, a5, a24, a25, a26, am]
        rw [hpl] at hd hkp hf1 hf2
        refine f24_spec (p := (⟨bch, bi, (2 : Nat), 0, false⟩)) (l := l) (xb := xb) (lb := lb) (b5.ext (by repeat (first | assumption | exact Ext.refl _ | refine Ext.push ?_ | refine Ext.set ?_ (by omega) | refine Ext.trans ?_ (by assumption)))) (i5.ext (by repeat (first | assumption | exact Ext.refl _ | refine Ext.push ?_ | refine Ext.set ?_ (by omega) | refine Ext.trans ?_ (by assumption)))) (by omega) c3.fits ?_
        rw [hd]
        intro h6 u6 i6
        have n6 := u6.1
        simp only [push_n] at n6
        change IX h6 xb lb l at i6
        have b6 : blocks h6 := (b5.ext (h' := ((h5.push _).push _)) (by repeat (first | assumption | exact Ext.refl _ | refine Ext.push ?_ | refine Ext.set ?_ (by omega) | refine Ext.trans ?_ (by assumption)))).upd u6 hlb0
        have l5 := i5.ln
        simp (disch := first | assumption | omega | (simp only [push_n, set_n]; done) | (simp only [push_n, set_n]; omega) | fail) only [go_sem, ↓reduceIte, Nat.reduceEqDiff, Nat.reduceAdd, Nat.reduceMul, Int.reduceToNat, Int.reduceAdd, Int.reduceTDiv, Nat.reduceLeDiff, a3, a4, a5, a24, a25, a26, am, okM, u6.2]
        refine f13_spec (p := (⟨bch, bi, (2 : Nat), 0, false⟩)) (l := l) (xb := xb) (lb := lb) b6 i6 (by omega) ?_
        rw [hkp]
        intro h7 u7 i7
        have n7 := u7.1
        change IX h7 xb lb l at i7
        have b7 : blocks h7 := b6.upd u7 hlb0
        have r7 : RS h7 1 v (cs.map Ck.word) := rs_upd (rs_upd (r5.mono (by repeat (first | assumption | exact Ext.refl _ | refine Ext.push ?_ | refine Ext.set ?_ (by omega) | refine Ext.trans ?_ (by assumption)))) u6 hvlb) u7 hvlb
        have w7 : RS h7 3 w ((blocksM cs).map Bl.cells) := rs_upd (rs_upd (w5.mono (by repeat (first | assumption | exact Ext.refl _ | refine Ext.push ?_ | refine Ext.set ?_ (by omega) | refine Ext.trans ?_ (by assumption)))) u6 hwl) u7 hwl
        simp (disch := first | assumption | omega | (simp only [push_n, set_n]; done) | (simp only [push_n, set_n]; omega) | fail) only [go_sem, ↓reduceIte, Nat.reduceEqDiff, Nat.reduceAdd, Nat.reduceMul, Int.reduceToNat, Int.reduceAdd, Int.reduceTDiv, Nat.reduceLeDiff, a3, a4, a5, a24, a25, a26, am, okM, u6.2, u7.2]
        refine f10_spec (cs := cs) b7 r7 hok (by omega) ?_
        intro yb lb2 h8 x8 hyb hlb2 i8
        have n_x8 := Ext.n_le x8; try simp only [push_n, set_n] at n_x8
        have hcne : cs ≠ [] := by intro e; subst e; simp at hck
        have hlb3 := hlb2.resolve_left (fun e => hcne e.2)
        rw [hnews] at i8
        have b8 := b7.ext x8
        simp (disch := first | assumption | omega | (simp only [push_n, set_n]; done) | (simp only [push_n, set_n]; omega) | fail) only [go_sem, ↓reduceIte, Nat.reduceEqDiff, Nat.reduceAdd, Nat.reduceMul, Int.reduceToNat, Int.reduceAdd, Int.reduceTDiv, Nat.reduceLeDiff, a3, a4, a5, a24, a25, a26, am, okM, u6.2, u7.2, x8.2]
        refine f14_spec (p := (⟨bch, bi, (2 : Nat), 0, false⟩)) (l := l) (xb := yb) (lb := lb2) b8 i8 (by omega) c3.fits ?_
        rw [hf1]
        intro h9 u9 i9
        have n9 := u9.1
        change IX h9 yb lb2 l3' at i9
        have x79 : Ext h7 h9 := ext_upd x8 hlb3 u9
        simp (disch := first | assumption | omega | (simp only [push_n, set_n]; done) | (simp only [push_n, set_n]; omega) | fail) only [go_sem, ↓reduceIte, Nat.reduceEqDiff, Nat.reduceAdd, Nat.reduceMul, Int.reduceToNat, Int.reduceAdd, Int.reduceTDiv, Nat.reduceLeDiff, a3, a4, a5, a24, a25, a26, am, okM, u6.2, u7.2, x79.2]
        refine f14_spec (p := (⟨bch, bi, (2 : Nat), 0, false⟩)) (l := l3') (xb := yb) (lb := lb2) (b7.ext x79) i9 (by omega) hcal.fits ?_
        rw [hf2]
        intro h10 u10 i10
        have n10 := u10.1
        change IX h10 yb lb2 l3' at i10
        have x710 : Ext h7 h10 := ext_upd x79 hlb3 u10
        simp (disch := first | assumption | omega | (simp only [push_n, set_n]; done) | (simp only [push_n, set_n]; omega) | fail) only [go_sem, ↓reduceIte, Nat.reduceEqDiff, Nat.reduceAdd, Nat.reduceMul, Int.reduceToNat, Int.reduceAdd, Int.reduceTDiv, Nat.reduceLeDiff, a3, a4, a5, a24, a25, a26, am, okM, u6.2, u7.2, x710.2]
        refine f16_spec (l := l3') (xb := yb) (lb := lb2) (b7.ext x710) i10 (by omega) hcal.ok fun v11 h11 x11 o11 => ?_
        have n_x11 := Ext.n_le x11; try simp only [push_n, set_n] at n_x11
        rw [calm_table hcal] at o11
        have hok3 : ∀ c ∈ l3'.map One.c, c.ok := fun c hc => by obtain ⟨o, ho, rfl⟩ := List.mem_map.1 hc; exact hcal.ok o ho
        have hln3 : (l3'.map One.c).length ≤ 20 := by rw [List.length_map]; omega
        simp (disch := first | assumption | omega | (simp only [push_n, set_n]; done) | (simp only [push_n, set_n]; omega) | fail) only [go_sem, ↓reduceIte, Nat.reduceEqDiff, Nat.reduceAdd, Nat.reduceMul, Int.reduceToNat, Int.reduceAdd, Int.reduceTDiv, Nat.reduceLeDiff, a3, a4, a5, a24, a25, a26, am, okM, u6.2, u7.2, x710.2]
        refine f37_spec (cs := l3'.map One.c) ((b7.ext x710).ext x11) o11.rs hok3 (by omega) fun v12 h12 x12 o12 => ?_
        have n_x12 := Ext.n_le x12; try simp only [push_n, set_n] at n_x12
        have hl12 : lenE h12 v12 = some (.int .i64 (blocksM (l3'.map One.c)).length, h12) := by have := o12.rs.len (h' := h12); simpa using this
        have x712 : Ext h7 h12 := (x710.trans x11).trans x12
        simp (disch := first | assumption | omega | (simp only [push_n, set_n]; done) | (simp only [push_n, set_n]; omega) | fail) only [go_sem, ↓reduceIte, Nat.reduceEqDiff, Nat.reduceAdd, Nat.reduceMul, Int.reduceToNat, Int.reduceAdd, Int.reduceTDiv, Nat.reduceLeDiff, a3, a4, a5, a24, a25, a26, am, hl12]
        refine f37_spec (cs := cs) (b7.ext x712) (r7.mono x712) hok (by omega) fun v13 h13 x13 o13 => ?_
        have n_x13 := Ext.n_le x13; try simp only [push_n, set_n] at n_x13
        have hl13 : lenE h13 v13 = some (.int .i64 (blocksM cs).length, h13) := by have := o13.rs.len (h' := h13); simpa using this
        have x713 : Ext h7 h13 := x712.trans x13
        simp (disch := first | assumption | omega | (simp only [push_n, set_n]; done) | (simp only [push_n, set_n]; omega) | fail) only [go_sem, ↓reduceIte, Nat.reduceEqDiff, Nat.reduceAdd, Nat.reduceMul, Int.reduceToNat, Int.reduceAdd, Int.reduceTDiv, Nat.reduceLeDiff, a3, a4, a5, a24, a25, a26, am, hl13]
        exact ⟨_, Nat.sub_lt_sub_left hin (Nat.lt_succ_self i), i + 1, rfl, by omega, hw.symm, rfl, b7.ext x713, r7.mono x713, w7.mono x713, i7.ext x713⟩
  · obtain rfl : i = (blocksM cs).length := by omega
    simp (disch := first | assumption | omega | (simp only [push_n, set_n]; done) | (simp only [push_n, set_n]; omega) | fail) only [go_sem, ↓reduceIte, Nat.reduceEqDiff, Nat.reduceAdd, Nat.reduceMul, Int.reduceToNat, Int.reduceAdd, Int.reduceTDiv, Nat.reduceLeDiff, a3, a4, a5, a24, a25, a26, am]
    refine f16_spec (l := l) (xb := xb) (lb := lb) b5 i5 (by omega) c3.ok fun v6 h6 x6 o6 => ?_
    have n_x6 := Ext.n_le x6; try simp only [push_n, set_n] at n_x6
    rw [calm_table c3, hnc, words_enc] at o6
    have r6 := r5.mono x6
    have r6' := r6
    rw [words_enc] at r6'
    simp (disch := first | assumption | omega | (simp only [push_n, set_n]; done) | (simp only [push_n, set_n]; omega) | fail) only [go_sem, ↓reduceIte, Nat.reduceEqDiff, Nat.reduceAdd, Nat.reduceMul, Int.reduceToNat, Int.reduceAdd, Int.reduceTDiv, Nat.reduceLeDiff, a3, a4, a5, a24, a25, a26, am]
    refine f32_spec (xs := cs.map Ck.enc) (ys := cs.map Ck.enc) o6.rs r6' (by simp; omega) ?_
    simp (disch := first | assumption | omega | (simp only [push_n, set_n]; done) | (simp only [push_n, set_n]; omega) | fail) only [go_sem, ↓reduceIte, Nat.reduceEqDiff, Nat.reduceAdd, Nat.reduceMul, Int.reduceToNat, Int.reduceAdd, Int.reduceTDiv, Nat.reduceLeDiff, a3, a4, a5, a24, a25, a26, am]
    refine f35_spec (l := l) (xb := xb) (lb := lb) (i5.ext x6) (by omega) fun v7 h7 x7 o7 => ?_
    have n_x7 := Ext.n_le x7; try simp only [push_n, set_n] at n_x7
    rw [calm_frees c3, hnc] at o7
    simp (disch := first | assumption | omega | (simp only [push_n, set_n]; done) | (simp only [push_n, set_n]; omega) | fail) only [go_sem, ↓reduceIte, Nat.reduceEqDiff, Nat.reduceAdd, Nat.reduceMul, Int.reduceToNat, Int.reduceAdd, Int.reduceTDiv, Nat.reduceLeDiff, a3, a4, a5, a24, a25, a26, am]
    refine f15_spec (cs := cs) ((b5.ext x6).ext x7) (r6.mono x7) hok (by omega) fun v8 h8 x8 o8 => ?_
    have n_x8 := Ext.n_le x8; try simp only [push_n, set_n] at n_x8
    have hrl : (rowsOf (cs.map Ck.may)).length ≤ 21 := by have := rowsAux_length (cs.map Ck.may) 0 0; unfold rowsOf; rw [List.length_map] at this; omega
    simp (disch := first | assumption | omega | (simp only [push_n, set_n]; done) | (simp only [push_n, set_n]; omega) | fail) only [go_sem, ↓reduceIte, Nat.reduceEqDiff, Nat.reduceAdd, Nat.reduceMul, Int.reduceToNat, Int.reduceAdd, Int.reduceTDiv, Nat.reduceLeDiff, a3, a4, a5, a24, a25, a26, am]
    refine f34_spec (xs := rowsOf (cs.map Ck.may)) (o7.rs.mono x8) o8.rs (by omega) ?_
    simp (disch := first | assumption | omega | (simp only [push_n, set_n]; done) | (simp only [push_n, set_n]; omega) | fail) only [go_sem, ↓reduceIte, Nat.reduceEqDiff, Nat.reduceAdd, Nat.reduceMul, Int.reduceToNat, Int.reduceAdd, Int.reduceTDiv, Nat.reduceLeDiff, a3, a4, a5, a24, a25, a26, am]
    exact q _
end Go.Am.YtdcppkhobfbpeaaDoor
