/-
  The document's index: what it is told of a table.
-/
import Derived.Test.YtdcppkhobfbpeaaDoorD25
set_option linter.unusedVariables false
set_option linter.unusedSimpArgs false
namespace Go.Am.YtdcppkhobfbpeaaDoor
open Go Go.Am Go.Proofs

theorem f74_spec {h : Heap} {Q : Value → Heap → Prop} {c : Ck} (hc : c.ok) (q : ∀ h', Ext h h' → Q (.tuple #[c.val, .bool true]) h') : WC T (.func (.func 74) #[] #[]) [ub c.enc] h Q := by
  obtain ⟨b1, b2, b3, b4, b5⟩ := Ck.bounds hc
  have he := Ck.enc_toNat hc
  have g1 : (c.enc % 8#64).toNat = c.kind := by rw [BitVec.toNat_umod, he]; unfold Ck.encN; simp; omega
  have g2 : (c.enc / 8#64 % 4#64).toNat = c.cls := by rw [BitVec.toNat_umod, BitVec.toNat_udiv, he]; unfold Ck.encN; simp; omega
  have g3 : (c.enc / 32#64 % 64#64).toNat = c.lane := by rw [BitVec.toNat_umod, BitVec.toNat_udiv, he]; unfold Ck.encN; simp; omega
  have g4 : (c.enc / 2048#64 % 8192#64).toNat = c.many := by rw [BitVec.toNat_umod, BitVec.toNat_udiv, he]; unfold Ck.encN; simp; omega
  have g5 : c.enc / 16777216#64 % 256#64 = c.bits := by
    apply BitVec.eq_of_toNat_eq
    rw [BitVec.toNat_umod, BitVec.toNat_udiv, he]; unfold Ck.encN; simp; omega
  have g6 : c.enc / 4294967296#64 = 0#64 := by
    apply BitVec.eq_of_toNat_eq
    rw [BitVec.toNat_udiv, he]; unfold Ck.encN; simp; omega
  have n8 : (8#64 : BitVec 64) ≠ 0#64 := by decide
  have n4 : (4#64 : BitVec 64) ≠ 0#64 := by decide
  have n32 : (32#64 : BitVec 64) ≠ 0#64 := by decide
  have n64 : (64#64 : BitVec 64) ≠ 0#64 := by decide
  have n2048 : (2048#64 : BitVec 64) ≠ 0#64 := by decide
  have n8192 : (8192#64 : BitVec 64) ≠ 0#64 := by decide
  have n16777216 : (16777216#64 : BitVec 64) ≠ 0#64 := by decide
  have n256 : (256#64 : BitVec 64) ≠ 0#64 := by decide
  have n4294967296 : (4294967296#64 : BitVec 64) ≠ 0#64 := by decide
  refine WC_fn T74 rfl ?_
  simp (disch := first | assumption | omega | (simp only [push_n, set_n]; done) | (simp only [push_n, set_n]; omega) | fail) only [go_sem, ↓reduceIte, Nat.reduceEqDiff, Nat.reduceAdd, Nat.reduceMul, Int.reduceToNat, Int.reduceAdd, Int.reduceTDiv, Nat.reduceLeDiff, ir74, g1, g2, g3, g4, g5]
  refine f63_spec (c := c) hc fun h1 x1 => ?_
  have n_x1 := Ext.n_le x1; try simp only [push_n, set_n] at n_x1
  have gc := x1.2 (h.n + 1) (by (first | omega | (simp only [push_n, set_n]; done) | (simp only [push_n, set_n]; omega)))
  have g0 := x1.2 h.n (by (first | omega | (simp only [push_n, set_n]; done) | (simp only [push_n, set_n]; omega)))
  simp (disch := first | assumption | omega | (simp only [push_n, set_n]; done) | (simp only [push_n, set_n]; omega) | fail) only [go_sem, ↓reduceIte, Nat.reduceEqDiff, Nat.reduceAdd, Nat.reduceMul, Int.reduceToNat, Int.reduceAdd, Int.reduceTDiv, Nat.reduceLeDiff] at gc g0
  simp (disch := first | assumption | omega | (simp only [push_n, set_n]; done) | (simp only [push_n, set_n]; omega) | fail) only [go_sem, ↓reduceIte, Nat.reduceEqDiff, Nat.reduceAdd, Nat.reduceMul, Int.reduceToNat, Int.reduceAdd, Int.reduceTDiv, Nat.reduceLeDiff, gc, g0, g6]
  exact q _ (by repeat (first | assumption | exact Ext.refl _ | refine Ext.push ?_ | refine Ext.set ?_ (by omega) | refine Ext.trans ?_ (by assumption)))

theorem f53_spec {h : Heap} {Q : Value → Heap → Prop} {tv : Value} {cs : List Ck} (hr : RS h 1 tv (cs.map Ck.word)) (hok : ∀ c ∈ cs, c.ok) (hn : cs.length ≤ 1000)
    (q : ∀ v h', Ext h h' → OS h' 47 5 h.n v (cs.map Ck.cells) → Q (.tuple #[v, .bool true]) h') : WC T (.func (.func 53) #[] #[]) [tv] h Q := by
  refine WC_fn T53 rfl ?_
  obtain ⟨al, ac, hv⟩ := hr.lenV
  subst hv
  simp (disch := first | assumption | omega | (simp only [push_n, set_n]; done) | (simp only [push_n, set_n]; omega) | fail) only [go_sem, ↓reduceIte, Nat.reduceEqDiff, Nat.reduceAdd, Nat.reduceMul, Int.reduceToNat, Int.reduceAdd, Int.reduceTDiv, Nat.reduceLeDiff, ir53]
  refine WE_loop (fun m a h' => ∃ (k : Nat) (v : Value), m = cs.length - k ∧ k ≤ cs.length ∧ a.get 0 = .slice al cs.length ac ∧ a.get 4 = v ∧ a.get 5 = .int .i64 k ∧ a.marks = [] ∧ Ext h h' ∧ OS h' 47 5 h.n v ((cs.take k).map Ck.cells)) ?_ (m := cs.length) ⟨0, _, by omega, by omega, by simp (disch := first | assumption | omega | (simp only [push_n, set_n]; done) | (simp only [push_n, set_n]; omega) | fail) only [go_sem, ↓reduceIte, Nat.reduceEqDiff, Nat.reduceAdd, Nat.reduceMul, Int.reduceToNat, Int.reduceAdd, Int.reduceTDiv, Nat.reduceLeDiff], by simp (disch := first | assumption | omega | (simp only [push_n, set_n]; done) | (simp only [push_n, set_n]; omega) | fail) only [go_sem, ↓reduceIte, Nat.reduceEqDiff, Nat.reduceAdd, Nat.reduceMul, Int.reduceToNat, Int.reduceAdd, Int.reduceTDiv, Nat.reduceLeDiff], by simp (disch := first | assumption | omega | (simp only [push_n, set_n]; done) | (simp only [push_n, set_n]; omega) | fail) only [go_sem, ↓reduceIte, Nat.reduceEqDiff, Nat.reduceAdd, Nat.reduceMul, Int.reduceToNat, Int.reduceAdd, Int.reduceTDiv, Nat.reduceLeDiff], rfl, Ext.refl _, OS.nil⟩
  rintro m a h1 ⟨k, v, rfl, hk, a0, a4, a5, am, hx, ho⟩
  have n_hx := Ext.n_le hx; try simp only [push_n, set_n] at n_hx
  by_cases hkn : k < cs.length
  · obtain ⟨b, c0, e, ro, hv, hg, hbn⟩ := hr.atM hkn
    injection hv with hv1 hv2 hv3
    subst hv1 hv3
    obtain ⟨c, hc⟩ : ∃ c, cs[k]? = some c := ⟨_, List.getElem?_eq_getElem hkn⟩
    have hcm : c ∈ cs := List.mem_of_getElem? hc
    have hl := getAt_map1 (f := Ck.word) (fun _ => rfl) hc
    simp (disch := first | assumption | omega | (simp only [push_n, set_n]; done) | (simp only [push_n, set_n]; omega) | fail) only [go_sem, ↓reduceIte, Nat.reduceEqDiff, Nat.reduceAdd, Nat.reduceMul, Int.reduceToNat, Int.reduceAdd, Int.reduceTDiv, Nat.reduceLeDiff, a0, a4, a5, am, hx.2, hg, hl, Ck.word]
    refine f74_spec (hok c hcm) fun h2 x2 => ?_
    have n_x2 := Ext.n_le x2; try simp only [push_n, set_n] at n_x2
    obtain ⟨v', h3, e1, o3, x3, n3, g3, vc⟩ := OS.app_ext (h := (h2.push (.cells c.cells 47 false)).push (.cells c.cells 47 false)) (B := h2.n + 1) (bytes := 40) (by repeat (first | assumption | exact Ext.refl _ | refine Ext.push ?_ | refine Ext.set ?_ (by omega) | refine Ext.trans ?_ (by assumption))) (ho.ext (h' := (h2.push (.cells c.cells 47 false)).push (.cells c.cells 47 false)) (by repeat (first | assumption | exact Ext.refl _ | refine Ext.push ?_ | refine Ext.set ?_ (by omega) | refine Ext.trans ?_ (by assumption)))) (get_push_eq (by (first | omega | (simp only [push_n, set_n]; done) | (simp only [push_n, set_n]; omega)))) rfl (by decide) (by simp; omega)
    simp (disch := first | assumption | omega | (simp only [push_n, set_n]; done) | (simp only [push_n, set_n]; omega) | fail) only [go_sem, ↓reduceIte, Nat.reduceEqDiff, Nat.reduceAdd, Nat.reduceMul, Int.reduceToNat, Int.reduceAdd, Int.reduceTDiv, Nat.reduceLeDiff, a0, a4, a5, am, e1]
    exact ⟨_, Nat.sub_lt_sub_left hkn (Nat.lt_succ_self k), k + 1, v', rfl, by omega, rfl, rfl, x3, by rw [take_succ hc, List.map_append]; exact o3⟩
  · obtain rfl : k = cs.length := by omega
    simp (disch := first | assumption | omega | (simp only [push_n, set_n]; done) | (simp only [push_n, set_n]; omega) | fail) only [go_sem, ↓reduceIte, Nat.reduceEqDiff, Nat.reduceAdd, Nat.reduceMul, Int.reduceToNat, Int.reduceAdd, Int.reduceTDiv, Nat.reduceLeDiff, a0, a4, a5, am]
    rw [List.take_length] at ho
    exact q _ _ hx ho

/-- A chunk that is tidy. -/
def Tidy (o : One) : Prop := match o.c with
  | .run k b => k < 3 ∧ b.toNat < 2 ^ manyOf k ∧ o.t.toNat < 2 ^ manyOf k ∧ b &&& o.t = 0#64
  | .huge n => 1 ≤ n ∧ n ≤ 8191 ∧ (o.t = 0#64 ∨ o.t = 1#64)
  | .log l n => l < 64 ∧ n < 8 ∧ o.t = 0#64
  | _ => o.t = 0#64
theorem Tidy.ok {o : One} (h : Tidy o) : o.c.ok := by
  obtain ⟨c, t⟩ := o
  cases c with
  | run k b => exact ⟨h.1, h.2.1⟩
  | huge n => exact ⟨h.1, h.2.1⟩
  | log l n => exact ⟨h.1, h.2.1⟩
  | _ => trivial
/-- What the document knows of a block: 0 nothing, 1 it is live, 2 it is taken. -/
def One.blk (o : One) (k : Nat) : Nat := match o.c with
  | .run _ b => if b.getLsbD k = true then 1 else if o.t.getLsbD k = true then 2 else 0
  | _ => 0
def One.tkn (o : One) : Bool := match o.c with
  | .huge _ => decide (o.t ≠ 0#64)
  | _ => false
/-- The document's chunk. -/
def One.ref (o : One) : List Value := [.int .i64 o.c.kind, .int .i64 o.c.cls, .int .i64 o.c.lane, .int .i64 o.c.many, ub 0#64, .int .i64 (o.blk 0), .int .i64 (o.blk 1), .int .i64 (o.blk 2), .int .i64 (o.blk 3), .int .i64 (o.blk 4), .int .i64 (o.blk 5), .int .i64 (o.blk 6), .int .i64 (o.blk 7), .bool o.tkn]

/-- The document's index: what it knows lies in a block. -/
structure YX (h : Heap) (yb lb : Nat) (l : List One) : Prop where
  yn : yb < h.n
  ln : lb < h.n
  ne : lb ≠ yb
  y : h.get yb = .cells [ixv lb l.length] 87 false
  l : l ≠ [] → h.get lb = .cells (l.map One.ref).flatten 90 false
theorem YX.ext {h h' : Heap} {yb lb : Nat} {l : List One} (hi : YX h yb lb l) (hx : Ext h h') : YX h' yb lb l :=
  ⟨Nat.lt_of_lt_of_le hi.yn hx.1, Nat.lt_of_lt_of_le hi.ln hx.1, hi.ne, (hx.2 _ hi.yn).trans hi.y, fun hn => (hx.2 _ hi.ln).trans (hi.l hn)⟩
theorem YX.keep {h h' : Heap} {xb lb : Nat} {l : List One} (hi : YX h xb lb l) (hn : h.n ≤ h'.n) (hx : h'.get xb = h.get xb) (hl : h'.get lb = h.get lb) : YX h' xb lb l :=
  ⟨by have := hi.yn; omega, by have := hi.ln; omega, hi.ne, hx.trans hi.y, fun hne => hl.trans (hi.l hne)⟩
theorem ref_len (l : List One) : (l.map One.ref).flatten.length = l.length * 14 := by
  rw [flatten_length _ 14 (fun y hy => by obtain ⟨z, _, rfl⟩ := List.mem_map.1 hy; rfl), List.length_map]
theorem ref_part {l : List One} {i : Nat} {o : One} (hi : l[i]? = some o) (j n : Nat) (hj : j + n ≤ 14) : getAt (l.map One.ref).flatten (i * 14 + j) n = getAt o.ref j n :=
  getAt_part _ 14 (fun y hy => by obtain ⟨z, _, rfl⟩ := List.mem_map.1 hy; rfl) i j n _ (by rw [List.getElem?_map, hi]; rfl) hj
theorem ref_set {l : List One} {i : Nat} {o o' : One} (hi : l[i]? = some o) (j : Nat) (vs : List Value) (hj : j + vs.length ≤ 14) (ho : setAt o.ref j vs = o'.ref) : setAt (l.map One.ref).flatten (i * 14 + j) vs = ((l.set i o').map One.ref).flatten := by
  rw [setAt_part _ 14 (fun y hy => by obtain ⟨z, _, rfl⟩ := List.mem_map.1 hy; rfl) i j vs o.ref (by rw [List.getElem?_map, hi]; rfl) hj, ho, List.map_set]
theorem ref_set0 {l : List One} {i : Nat} {o' : One} (hi : i < l.length) : setAt (l.map One.ref).flatten (i * 14) o'.ref = ((l.set i o').map One.ref).flatten := by
  rw [setAt_flatten _ 14 (fun y hy => by obtain ⟨z, _, rfl⟩ := List.mem_map.1 hy; rfl) i o'.ref (by simpa using hi) rfl, List.map_set]
theorem YX.write {h : Heap} {xb lb : Nat} {l l' : List One} (hi : YX h xb lb l) (hl : l'.length = l.length) : YX (h.set lb (.cells (l'.map One.ref).flatten 90 false)) xb lb l' :=
  ⟨hi.yn, hi.ln, hi.ne, by rw [get_set_ne (Ne.symm hi.ne), hl]; exact hi.y, fun hn => get_set_eq rfl⟩

theorem bit_div {b : BitVec 64} {j : Nat} (hj : j < 64) : decide (b / bitB j % 2#64 = 1#64) = b.getLsbD j := by
  have e : (b / bitB j % 2#64).toNat = b.toNat / 2 ^ j % 2 := by
    rw [BitVec.toNat_umod, BitVec.toNat_udiv]
    unfold bitB
    rw [BitVec.toNat_shiftLeft, BitVec.toNat_ofNat, Nat.one_mod_two_pow (by decide), Nat.shiftLeft_eq, Nat.one_mul, Nat.mod_eq_of_lt (Nat.pow_lt_pow_right (by decide) hj)]
    rfl
  have e2 : b.getLsbD j = decide (b.toNat / 2 ^ j % 2 = 1) := by
    show b.toNat.testBit j = _
    rw [Nat.testBit_eq_decide_div_mod_eq]
  rw [e2]
  by_cases h : b.toNat / 2 ^ j % 2 = 1
  · rw [decide_eq_true h]
    apply decide_eq_true
    apply BitVec.eq_of_toNat_eq
    rw [e, h]; rfl
  · rw [decide_eq_false h]
    apply decide_eq_false
    intro h2
    rw [h2] at e
    exact h e.symm
theorem f54_spec {h : Heap} {Q : Value → Heap → Prop} {c : Ck} {j : Nat} (hj : j < 8) (q : ∀ h', Ext h h' → Q (.bool (c.bits.getLsbD j)) h') : WC T (.func (.func 54) #[] #[]) [c.val, .int .i64 j] h Q := by
  refine WC_fn T54 rfl ?_
  simp (disch := first | assumption | omega | (simp only [push_n, set_n]; done) | (simp only [push_n, set_n]; omega) | fail) only [go_sem, ↓reduceIte, Nat.reduceEqDiff, Nat.reduceAdd, Nat.reduceMul, Int.reduceToNat, Int.reduceAdd, Int.reduceTDiv, Nat.reduceLeDiff, ir54]
  refine f75_spec (n := j) (by omega) ?_
  have hne : bitB j ≠ 0#64 := by
    intro e
    have := congrArg (fun x : BitVec 64 => x.getLsbD j) e
    simp only [bitB_get] at this
    simp at this; omega
  have n2 : (2#64 : BitVec 64) ≠ 0#64 := by decide
  simp (disch := first | assumption | omega | (simp only [push_n, set_n]; done) | (simp only [push_n, set_n]; omega) | fail) only [go_sem, ↓reduceIte, Nat.reduceEqDiff, Nat.reduceAdd, Nat.reduceMul, Int.reduceToNat, Int.reduceAdd, Int.reduceTDiv, Nat.reduceLeDiff, bit_div (show j < 64 by omega)]
  exact q _ (by repeat (first | assumption | exact Ext.refl _ | refine Ext.push ?_ | refine Ext.set ?_ (by omega) | refine Ext.trans ?_ (by assumption)))
end Go.Am.YtdcppkhobfbpeaaDoor
