/-
  What may be had: taking.
-/
import Derived.Test.YtdcppkhobfbpeaaDoorD6
set_option linter.unusedVariables false
set_option linter.unusedSimpArgs false
namespace Go.Am.YtdcppkhobfbpeaaDoor
open Go Go.Am Go.Proofs

/-- The lowest block of a run of a class that can be had; -1: none. -/
def roomI (o : One) (k : Nat) : Int := match o.c with
  | .run k' b => if k' = k then firstBit (~~~(b ||| o.t)) (manyOf k) else -1
  | _ => -1
def runAux (k : Nat) : Nat → List One → Option (Nat × Nat)
  | _, [] => none
  | i, o :: r => if 0 ≤ roomI o k then some (i, (roomI o k).toNat) else runAux k (i + 1) r
theorem runAux_drop {k i : Nat} {l : List One} {o : One} (h : l[i]? = some o) : runAux k i (l.drop i) = if 0 ≤ roomI o k then some (i, (roomI o k).toNat) else runAux k (i + 1) (l.drop (i + 1)) := by
  have hi : i < l.length := by
    rcases Nat.lt_or_ge i l.length with h1 | h1
    · exact h1
    · rw [List.getElem?_eq_none h1] at h; cases h
  rw [List.drop_eq_getElem_cons hi]
  rw [List.getElem?_eq_getElem hi] at h
  injection h with h
  rw [h]; rfl
theorem firstBit_cases (w : BitVec 64) (n : Nat) : firstBit w n = -1 ∨ ∃ k : Nat, k < n ∧ firstBit w n = k ∧ w.getLsbD k = true := by
  unfold firstBit
  cases hf : (List.range n).find? (fun k => w.getLsbD k) with
  | none => exact .inl rfl
  | some k =>
    refine .inr ⟨k, ?_, rfl, ?_⟩
    · have := List.mem_of_find?_eq_some hf
      simpa using this
    · have := List.find?_some hf
      simpa using this

theorem f81_first {h : Heap} {Q : Value → Heap → Prop} {yv : Value} {bx bk xb lb k : Nat} {l : List One} {e1 e2 : TypeId} {r1 r2 : Bool} (hb : blocks h) (hi : IX h xb lb l) (hn : l.length ≤ 1000) (hk : k < 3)
    (hbx : h.get bx = .cells [.pointer (some ⟨xb, 0, none⟩)] e1 r1) (hbk : h.get bk = .cells [.int .i64 k] e2 r2) (lx : bx < h.n) (lk : bk < h.n)
    (q1 : ∀ i n h', Ext h h' → i < l.length → n < 64 → runAux k 0 l = some (i, n) → WC T yv [.int .i64 i, .int .i64 n] h' (fun v h'' => v = .bool false ∧ Q (.tuple #[]) h''))
    (q0 : ∀ h', Ext h h' → runAux k 0 l = none → Q (.tuple #[]) h') : WC T (.func (.func 81) #[] #[.pointer (some ⟨bx, 0, none⟩), .pointer (some ⟨bk, 0, none⟩)]) [yv] h Q := by
  refine WC_clo (u := []) (v := [_, _]) T81 rfl ?_
  have ix := hi.x
  simp (disch := first | assumption | omega | (simp only [push_n, set_n]; done) | (simp only [push_n, set_n]; omega) | fail) only [go_sem, ↓reduceIte, Nat.reduceEqDiff, Nat.reduceAdd, Nat.reduceMul, Int.reduceToNat, Int.reduceAdd, Int.reduceTDiv, Nat.reduceLeDiff, ir81, hbx, ix]
  refine WE_loop (fun m a h' => ∃ i : Nat, m = l.length - i ∧ i ≤ l.length ∧ a.get 0 = yv ∧ a.get 2 = .pointer (some ⟨bk, 0, none⟩) ∧ a.get 10 = ixv lb l.length ∧ a.get 11 = .int .i64 l.length ∧ a.get 12 = .int .i64 i ∧ a.marks = [] ∧ Ext h h' ∧ runAux k 0 l = runAux k i (l.drop i)) ?_ (m := l.length) ⟨0, by omega, by omega, by simp (disch := first | assumption | omega | (simp only [push_n, set_n]; done) | (simp only [push_n, set_n]; omega) | fail) only [go_sem, ↓reduceIte, Nat.reduceEqDiff, Nat.reduceAdd, Nat.reduceMul, Int.reduceToNat, Int.reduceAdd, Int.reduceTDiv, Nat.reduceLeDiff], by simp (disch := first | assumption | omega | (simp only [push_n, set_n]; done) | (simp only [push_n, set_n]; omega) | fail) only [go_sem, ↓reduceIte, Nat.reduceEqDiff, Nat.reduceAdd, Nat.reduceMul, Int.reduceToNat, Int.reduceAdd, Int.reduceTDiv, Nat.reduceLeDiff], by simp (disch := first | assumption | omega | (simp only [push_n, set_n]; done) | (simp only [push_n, set_n]; omega) | fail) only [go_sem, ↓reduceIte, Nat.reduceEqDiff, Nat.reduceAdd, Nat.reduceMul, Int.reduceToNat, Int.reduceAdd, Int.reduceTDiv, Nat.reduceLeDiff], by simp (disch := first | assumption | omega | (simp only [push_n, set_n]; done) | (simp only [push_n, set_n]; omega) | fail) only [go_sem, ↓reduceIte, Nat.reduceEqDiff, Nat.reduceAdd, Nat.reduceMul, Int.reduceToNat, Int.reduceAdd, Int.reduceTDiv, Nat.reduceLeDiff], by simp (disch := first | assumption | omega | (simp only [push_n, set_n]; done) | (simp only [push_n, set_n]; omega) | fail) only [go_sem, ↓reduceIte, Nat.reduceEqDiff, Nat.reduceAdd, Nat.reduceMul, Int.reduceToNat, Int.reduceAdd, Int.reduceTDiv, Nat.reduceLeDiff], rfl, Ext.refl _, rfl⟩
  rintro m a h1 ⟨i, rfl, hil, a0, a2, a10, a11, a12, am, hx, hr⟩
  have n_hx := Ext.n_le hx; try simp only [push_n, set_n] at n_hx
  by_cases hin : i < l.length
  · have hne : l ≠ [] := by intro e; subst e; simp at hin
    obtain ⟨o, ho⟩ : ∃ o, l[i]? = some o := ⟨_, List.getElem?_eq_getElem hin⟩
    have hl := getAt_map (f := One.cells) (s := 6) (fun _ => rfl) ho
    have gl := (hx.2 lb hi.ln).trans (hi.l hne)
    have gk := (hx.2 bk lk).trans hbk
    rw [runAux_drop ho] at hr
    have next : ¬ 0 ≤ roomI o k → ∀ (H : Heap), Ext h H → ∃ m', m' < l.length - i ∧ ∃ j : Nat, m' = l.length - j ∧ j ≤ l.length ∧ Value.int .i64 ((i : Int) + 1) = Value.int .i64 (j : Int) ∧ Ext h H ∧ runAux k 0 l = runAux k j (l.drop j) := fun hno H hH => by
      rw [if_neg hno] at hr
      exact ⟨_, Nat.sub_lt_sub_left hin (Nat.lt_succ_self i), i + 1, rfl, by omega, rfl, hH, hr⟩
    obtain ⟨c, t⟩ := o
    cases c with
    | run k' b =>
      by_cases hkk : k' = k
      · subst hkk
        simp (disch := first | assumption | omega | (simp only [push_n, set_n]; done) | (simp only [push_n, set_n]; omega) | fail) only [go_sem, ↓reduceIte, Nat.reduceEqDiff, Nat.reduceAdd, Nat.reduceMul, Int.reduceToNat, Int.reduceAdd, Int.reduceTDiv, Nat.reduceLeDiff, a0, a2, a10, a11, a12, am, gl, hl, gk, One.cells, Ck.kind, Ck.cls, Ck.lane, Ck.many, Ck.bits]
        refine f66_spec (hb.ext (by repeat (first | assumption | exact Ext.refl _ | refine Ext.push ?_ | refine Ext.set ?_ (by omega) | refine Ext.trans ?_ (by assumption)))) ?_
        simp (disch := first | assumption | omega | (simp only [push_n, set_n]; done) | (simp only [push_n, set_n]; omega) | fail) only [go_sem, ↓reduceIte, Nat.reduceEqDiff, Nat.reduceAdd, Nat.reduceMul, Int.reduceToNat, Int.reduceAdd, Int.reduceTDiv, Nat.reduceLeDiff]
        have hm8 : manyOf k' ≤ 8 := by unfold manyOf; repeat (first | omega | split)
        refine f82_spec (by omega) fun h2 x2 => ?_
        have n_x2 := Ext.n_le x2; try simp only [push_n, set_n] at n_x2
        have hroom : roomI ⟨.run k' b, t⟩ k' = firstBit (~~~(b ||| t)) (manyOf k') := by simp [roomI]
        rcases firstBit_cases (~~~(b ||| t)) (manyOf k') with hf | ⟨n, hnn, hf, _⟩
        · rw [hf]
          rw [hf] at hroom
          simp (disch := first | assumption | omega | (simp only [push_n, set_n]; done) | (simp only [push_n, set_n]; omega) | fail) only [go_sem, ↓reduceIte, Nat.reduceEqDiff, Nat.reduceAdd, Nat.reduceMul, Int.reduceToNat, Int.reduceAdd, Int.reduceTDiv, Nat.reduceLeDiff, a0, a2, a10, a11, a12, am]
          exact next (by omega) _ (by repeat (first | assumption | exact Ext.refl _ | refine Ext.push ?_ | refine Ext.set ?_ (by omega) | refine Ext.trans ?_ (by assumption)))
        · rw [hf]
          rw [hf] at hroom
          rw [hroom, if_pos (by omega), Int.toNat_natCast] at hr
          simp (disch := first | assumption | omega | (simp only [push_n, set_n]; done) | (simp only [push_n, set_n]; omega) | fail) only [go_sem, ↓reduceIte, Nat.reduceEqDiff, Nat.reduceAdd, Nat.reduceMul, Int.reduceToNat, Int.reduceAdd, Int.reduceTDiv, Nat.reduceLeDiff, a0, a2, a10, a11, a12, am]
          refine (q1 i n h2 (by repeat (first | assumption | exact Ext.refl _ | refine Ext.push ?_ | refine Ext.set ?_ (by omega) | refine Ext.trans ?_ (by assumption))) hin (by omega) hr).mono ?_
          rintro v h3 ⟨rfl, hq⟩
          simp (disch := first | assumption | omega | (simp only [push_n, set_n]; done) | (simp only [push_n, set_n]; omega) | fail) only [go_sem, ↓reduceIte, Nat.reduceEqDiff, Nat.reduceAdd, Nat.reduceMul, Int.reduceToNat, Int.reduceAdd, Int.reduceTDiv, Nat.reduceLeDiff, a0, a2, a10, a11, a12, am]
          exact hq
      · have hroom : roomI ⟨.run k' b, t⟩ k = -1 := by simp [roomI, hkk]
        simp (disch := first | assumption | omega | (simp only [push_n, set_n]; done) | (simp only [push_n, set_n]; omega) | fail) only [go_sem, ↓reduceIte, Nat.reduceEqDiff, Nat.reduceAdd, Nat.reduceMul, Int.reduceToNat, Int.reduceAdd, Int.reduceTDiv, Nat.reduceLeDiff, a0, a2, a10, a11, a12, am, gl, hl, gk, One.cells, Ck.kind, Ck.cls, Ck.lane, Ck.many, Ck.bits]
        exact next (by omega) _ (by repeat (first | assumption | exact Ext.refl _ | refine Ext.push ?_ | refine Ext.set ?_ (by omega) | refine Ext.trans ?_ (by assumption)))
    | huge n =>
      simp (disch := first | assumption | omega | (simp only [push_n, set_n]; done) | (simp only [push_n, set_n]; omega) | fail) only [go_sem, ↓reduceIte, Nat.reduceEqDiff, Nat.reduceAdd, Nat.reduceMul, Int.reduceToNat, Int.reduceAdd, Int.reduceTDiv, Nat.reduceLeDiff, a0, a2, a10, a11, a12, am, gl, hl, gk, One.cells, Ck.kind, Ck.cls, Ck.lane, Ck.many, Ck.bits]
      exact next (by simp [roomI]) _ (by repeat (first | assumption | exact Ext.refl _ | refine Ext.push ?_ | refine Ext.set ?_ (by omega) | refine Ext.trans ?_ (by assumption)))
    | log l' n =>
      simp (disch := first | assumption | omega | (simp only [push_n, set_n]; done) | (simp only [push_n, set_n]; omega) | fail) only [go_sem, ↓reduceIte, Nat.reduceEqDiff, Nat.reduceAdd, Nat.reduceMul, Int.reduceToNat, Int.reduceAdd, Int.reduceTDiv, Nat.reduceLeDiff, a0, a2, a10, a11, a12, am, gl, hl, gk, One.cells, Ck.kind, Ck.cls, Ck.lane, Ck.many, Ck.bits]
      exact next (by simp [roomI]) _ (by repeat (first | assumption | exact Ext.refl _ | refine Ext.push ?_ | refine Ext.set ?_ (by omega) | refine Ext.trans ?_ (by assumption)))
    | free =>
      simp (disch := first | assumption | omega | (simp only [push_n, set_n]; done) | (simp only [push_n, set_n]; omega) | fail) only [go_sem, ↓reduceIte, Nat.reduceEqDiff, Nat.reduceAdd, Nat.reduceMul, Int.reduceToNat, Int.reduceAdd, Int.reduceTDiv, Nat.reduceLeDiff, a0, a2, a10, a11, a12, am, gl, hl, gk, One.cells, Ck.kind, Ck.cls, Ck.lane, Ck.many, Ck.bits]
      exact next (by simp [roomI]) _ (by repeat (first | assumption | exact Ext.refl _ | refine Ext.push ?_ | refine Ext.set ?_ (by omega) | refine Ext.trans ?_ (by assumption)))
    | tail =>
      simp (disch := first | assumption | omega | (simp only [push_n, set_n]; done) | (simp only [push_n, set_n]; omega) | fail) only [go_sem, ↓reduceIte, Nat.reduceEqDiff, Nat.reduceAdd, Nat.reduceMul, Int.reduceToNat, Int.reduceAdd, Int.reduceTDiv, Nat.reduceLeDiff, a0, a2, a10, a11, a12, am, gl, hl, gk, One.cells, Ck.kind, Ck.cls, Ck.lane, Ck.many, Ck.bits]
      exact next (by simp [roomI]) _ (by repeat (first | assumption | exact Ext.refl _ | refine Ext.push ?_ | refine Ext.set ?_ (by omega) | refine Ext.trans ?_ (by assumption)))
  · obtain rfl : i = l.length := by omega
    simp (disch := first | assumption | omega | (simp only [push_n, set_n]; done) | (simp only [push_n, set_n]; omega) | fail) only [go_sem, ↓reduceIte, Nat.reduceEqDiff, Nat.reduceAdd, Nat.reduceMul, Int.reduceToNat, Int.reduceAdd, Int.reduceTDiv, Nat.reduceLeDiff, a0, a2, a10, a11, a12, am]
    rw [List.drop_length] at hr
    exact q0 _ hx hr

/-- All is as it was but for one block. -/
def Upd (h h' : Heap) (lb : Nat) : Prop := h.n ≤ h'.n ∧ ∀ i, i < h.n → i ≠ lb → h'.get i = h.get i
theorem Ext.upd {h h' : Heap} {lb : Nat} (x : Ext h h') : Upd h h' lb := ⟨x.1, fun i hi _ => x.2 i hi⟩
theorem Upd.trans {h1 h2 h3 : Heap} {lb : Nat} (a : Upd h1 h2 lb) (b : Upd h2 h3 lb) : Upd h1 h3 lb := ⟨Nat.le_trans a.1 b.1, fun i hi hn => (b.2 i (Nat.lt_of_lt_of_le hi a.1) hn).trans (a.2 i hi hn)⟩
theorem blocks.upd {h h' : Heap} {lb : Nat} (hb : blocks h) (hx : Upd h h' lb) (hl : lb ≠ 0) : blocks h' := ⟨Nat.lt_of_lt_of_le hb.1 hx.1, by rw [hx.2 0 (Nat.lt_of_succ_lt hb.1) (Ne.symm hl)]; exact hb.2⟩

theorem Upd.of_push {h h' : Heap} {lb : Nat} {b : Blk} (x : Upd (h.push b) h' lb) : Upd h h' lb := ⟨by have := x.1; simp only [push_n] at this; omega, fun i hi hn => by rw [x.2 i (by simp only [push_n]; omega) hn, get_push_lt hi]⟩
theorem Upd.set {h h' : Heap} {lb k : Nat} {b : Blk} (x : Upd h h' lb) (hk : h.n ≤ k ∨ k = lb) : Upd h (h'.set k b) lb := ⟨x.1, fun i hi hn => by rw [get_set_ne (by rcases hk with hk | hk <;> omega)]; exact x.2 i hi hn⟩
theorem Upd.push {h h' : Heap} {lb : Nat} {b : Blk} (x : Upd h h' lb) : Upd h (h'.push b) lb := ⟨by have := x.1; simp only [push_n]; omega, fun i hi hn => by have := x.1; rw [get_push_lt (by omega)]; exact x.2 i hi hn⟩
theorem IX.set {h : Heap} {xb lb k : Nat} {b : Blk} {l : List One} (hi : IX h xb lb l) (h1 : k ≠ xb) (h2 : k ≠ lb) : IX (h.set k b) xb lb l :=
  ⟨hi.xn, hi.ln, hi.ne, by rw [get_set_ne (Ne.symm h1)]; exact hi.x, fun hn => by rw [get_set_ne (Ne.symm h2)]; exact hi.l hn⟩
theorem IX.write {h : Heap} {xb lb : Nat} {l l' : List One} (hi : IX h xb lb l) (hl : l'.length = l.length) : IX (h.set lb (.cells (l'.map One.cells).flatten 75 false)) xb lb l' :=
  ⟨hi.xn, hi.ln, hi.ne, by rw [get_set_ne (Ne.symm hi.ne), hl]; exact hi.x, fun hn => get_set_eq rfl⟩
theorem flat_length (l : List One) : (l.map One.cells).flatten.length = l.length * 6 := by
  rw [flatten_length _ 6 (fun y hy => by obtain ⟨z, _, rfl⟩ := List.mem_map.1 hy; rfl), List.length_map]
theorem one_part {l : List One} {i : Nat} {o : One} (hi : l[i]? = some o) (j n : Nat) (hj : j + n ≤ 6) : getAt (l.map One.cells).flatten (i * 6 + j) n = getAt o.cells j n :=
  getAt_part _ 6 (fun y hy => by obtain ⟨z, _, rfl⟩ := List.mem_map.1 hy; rfl) i j n _ (by rw [List.getElem?_map, hi]; rfl) hj
theorem one_set {l : List One} {i : Nat} {o o' : One} (hi : l[i]? = some o) (j : Nat) (vs : List Value) (hj : j + vs.length ≤ 6) (ho : setAt o.cells j vs = o'.cells) : setAt (l.map One.cells).flatten (i * 6 + j) vs = ((l.set i o').map One.cells).flatten := by
  rw [setAt_part _ 6 (fun y hy => by obtain ⟨z, _, rfl⟩ := List.mem_map.1 hy; rfl) i j vs o.cells (by rw [List.getElem?_map, hi]; rfl) hj, ho, List.map_set]
theorem one_set0 {l : List One} {i : Nat} {o' : One} (hi : i < l.length) : setAt (l.map One.cells).flatten (i * 6) o'.cells = ((l.set i o').map One.cells).flatten := by
  rw [setAt_flatten _ 6 (fun y hy => by obtain ⟨z, _, rfl⟩ := List.mem_map.1 hy; rfl) i o'.cells (by simpa using hi) rfl, List.map_set]
theorem rowsAux_lt : ∀ (fs : List Bool) (i m : Nat), m ≤ i → ∀ p ∈ rowsAux i m fs, p.1 + p.2 ≤ i + fs.length ∧ 1 ≤ p.2
  | [], i, m, hm, p, hp => by
    unfold rowsAux at hp
    split at hp
    · simp at hp
    · simp at hp; subst hp; simp; omega
  | true :: r, i, m, hm, p, hp => by
    unfold rowsAux at hp
    have := rowsAux_lt r (i + 1) (m + 1) (by omega) p hp
    simp only [List.length_cons]; omega
  | false :: r, i, m, hm, p, hp => by
    unfold rowsAux at hp
    split at hp
    · have := rowsAux_lt r (i + 1) 0 (by omega) p hp
      simp only [List.length_cons]; omega
    · rcases List.mem_cons.1 hp with h1 | h1
      · subst h1; simp only [List.length_cons]; omega
      · have := rowsAux_lt r (i + 1) 0 (by omega) p h1
        simp only [List.length_cons]; omega
theorem rowI_lt {fs : List Bool} {many i : Nat} (h : rowI (rowsOf fs) many = some i) : i + many ≤ fs.length ∧ i < fs.length := by
  unfold rowI at h
  cases hf : (rowsOf fs).find? (fun p => decide (many ≤ p.2)) with
  | none => rw [hf] at h; cases h
  | some p =>
    rw [hf] at h
    simp at h
    have h1 := rowsAux_lt fs 0 0 (Nat.le_refl _) p (List.mem_of_find?_eq_some hf)
    have h2 := List.find?_some hf
    simp at h2
    omega

/-- A place. -/
structure Pl where
  chunk : Int
  index : Int
  cls : Int
  many : Int
  fresh : Bool
def Pl.cells (p : Pl) : List Value := [.int .i64 p.chunk, .int .i64 p.index, .int .i64 p.cls, .int .i64 p.many, .bool p.fresh]
abbrev Pl.val (p : Pl) : Value := .agg p.cells.toArray

def bitB (n : Nat) : BitVec 64 := 1#64 <<< n
def smallM (l : List One) (k : Nat) : Pl × Nat × List One :=
  match runAux k 0 l with
  | some (i, n) => (⟨i, n, k, 0, false⟩, 0, match l[i]? with | some o => l.set i ⟨o.c, o.t ||| bitB n⟩ | none => l)
  | none => match rowI (rowsOf (frees l)) 1 with
    | some i => (⟨i, 0, k, 0, true⟩, 0, l.set i ⟨.run k 0#64, 1#64⟩)
    | none => (⟨0, 0, 0, 0, false⟩, 2, l)

theorem f44_spec {h : Heap} {Q : Value → Heap → Prop} {xb lb k : Nat} {l : List One} (hb : blocks h) (hi : IX h xb lb l) (hn : l.length ≤ 1000) (hk : k < 3)
    (q : ∀ h', Upd h h' lb → IX h' xb lb (smallM l k).2.2 → Q (.tuple #[(smallM l k).1.val, .int .i64 (smallM l k).2.1]) h') : WC T (.func (.func 44) #[] #[]) [.pointer (some ⟨xb, 0, none⟩), .int .i64 k] h Q := by
  refine WC_fn T44 rfl ?_
  simp (disch := first | assumption | omega | (simp only [push_n, set_n]; done) | (simp only [push_n, set_n]; omega) | fail) only [go_sem, ↓reduceIte, Nat.reduceEqDiff, Nat.reduceAdd, Nat.reduceMul, Int.reduceToNat, Int.reduceAdd, Int.reduceTDiv, Nat.reduceLeDiff, ir44]
  refine WC_fn T65 rfl ?_
  simp (disch := first | assumption | omega | (simp only [push_n, set_n]; done) | (simp only [push_n, set_n]; omega) | fail) only [go_sem, ↓reduceIte, Nat.reduceEqDiff, Nat.reduceAdd, Nat.reduceMul, Int.reduceToNat, Int.reduceAdd, Int.reduceTDiv, Nat.reduceLeDiff, ir65]
  generalize hA : put _ 12 _ = A
  have A2 : A 2 = .pointer (some ⟨h.n, 0, none⟩) := by rw [← hA]; simp (disch := first | assumption | omega | (simp only [push_n, set_n]; done) | (simp only [push_n, set_n]; omega) | fail) only [go_sem, ↓reduceIte, Nat.reduceEqDiff, Nat.reduceAdd, Nat.reduceMul, Int.reduceToNat, Int.reduceAdd, Int.reduceTDiv, Nat.reduceLeDiff]
  have A3 : A 3 = .pointer (some ⟨h.n + 1, 0, none⟩) := by rw [← hA]; simp (disch := first | assumption | omega | (simp only [push_n, set_n]; done) | (simp only [push_n, set_n]; omega) | fail) only [go_sem, ↓reduceIte, Nat.reduceEqDiff, Nat.reduceAdd, Nat.reduceMul, Int.reduceToNat, Int.reduceAdd, Int.reduceTDiv, Nat.reduceLeDiff]
  have A4 : A 4 = .pointer (some ⟨h.n + 1 + 1, 0, none⟩) := by rw [← hA]; simp (disch := first | assumption | omega | (simp only [push_n, set_n]; done) | (simp only [push_n, set_n]; omega) | fail) only [go_sem, ↓reduceIte, Nat.reduceEqDiff, Nat.reduceAdd, Nat.reduceMul, Int.reduceToNat, Int.reduceAdd, Int.reduceTDiv, Nat.reduceLeDiff]
  have A5 : A 5 = .pointer (some ⟨h.n + 1 + 1 + 1, 0, none⟩) := by rw [← hA]; simp (disch := first | assumption | omega | (simp only [push_n, set_n]; done) | (simp only [push_n, set_n]; omega) | fail) only [go_sem, ↓reduceIte, Nat.reduceEqDiff, Nat.reduceAdd, Nat.reduceMul, Int.reduceToNat, Int.reduceAdd, Int.reduceTDiv, Nat.reduceLeDiff]
  have A12 : A 12 = .func (.func 81) #[] #[.pointer (some ⟨h.n + 1 + 1 + 1 + 1, 0, none⟩), .pointer (some ⟨h.n + 1 + 1 + 1 + 1 + 1, 0, none⟩)] := by rw [← hA]; simp (disch := first | assumption | omega | (simp only [push_n, set_n]; done) | (simp only [push_n, set_n]; omega) | fail) only [go_sem, ↓reduceIte, Nat.reduceEqDiff, Nat.reduceAdd, Nat.reduceMul, Int.reduceToNat, Int.reduceAdd, Int.reduceTDiv, Nat.reduceLeDiff]
  clear hA
  refine WE_rng A12 ?_
  simp (disch := first | assumption | omega | (simp only [push_n, set_n]; done) | (simp only [push_n, set_n]; omega) | fail) only [go_sem, ↓reduceIte, Nat.reduceEqDiff, Nat.reduceAdd, Nat.reduceMul, Int.reduceToNat, Int.reduceAdd, Int.reduceTDiv, Nat.reduceLeDiff]
  refine f81_first (k := k) (l := l) (xb := xb) (lb := lb) (e1 := 25) (r1 := false) (e2 := 3) (r2 := false) (hb.ext (by repeat (first | assumption | exact Ext.refl _ | refine Ext.push ?_ | refine Ext.set ?_ (by omega) | refine Ext.trans ?_ (by assumption)))) (hi.ext (by repeat (first | assumption | exact Ext.refl _ | refine Ext.push ?_ | refine Ext.set ?_ (by omega) | refine Ext.trans ?_ (by assumption)))) hn hk (by simp (disch := first | assumption | omega | (simp only [push_n, set_n]; done) | (simp only [push_n, set_n]; omega) | fail) only [go_sem, ↓reduceIte, Nat.reduceEqDiff, Nat.reduceAdd, Nat.reduceMul, Int.reduceToNat, Int.reduceAdd, Int.reduceTDiv, Nat.reduceLeDiff]) (by simp (disch := first | assumption | omega | (simp only [push_n, set_n]; done) | (simp only [push_n, set_n]; omega) | fail) only [go_sem, ↓reduceIte, Nat.reduceEqDiff, Nat.reduceAdd, Nat.reduceMul, Int.reduceToNat, Int.reduceAdd, Int.reduceTDiv, Nat.reduceLeDiff]) (by (first | omega | (simp only [push_n, set_n]; done) | (simp only [push_n, set_n]; omega))) (by (first | omega | (simp only [push_n, set_n]; done) | (simp only [push_n, set_n]; omega))) ?_ ?_
  · intro i n h1 x1 hil hn64 hrun
    have n_x1 := Ext.n_le x1; try simp only [push_n, set_n] at n_x1
    have xn := hi.xn
    have ln := hi.ln
    have lx := hi.ne
    have ix := hi.x
    obtain ⟨o, ho⟩ : ∃ o, l[i]? = some o := ⟨_, List.getElem?_eq_getElem hil⟩
    have hne : l ≠ [] := by intro e; subst e; simp at hil
    have il := hi.l hne
    have g1 := one_part ho 5 1 (by omega)
    have g2 := one_set (o' := ⟨o.c, o.t ||| bitB n⟩) ho 5 [ub (o.t ||| bitB n)] (Nat.le_refl 6) rfl
    have hs : smallM l k = (⟨i, n, k, 0, false⟩, 0, l.set i ⟨o.c, o.t ||| bitB n⟩) := by unfold smallM; simp only [hrun, ho]
    rw [hs] at q
    unfold bitB at g2
    refine WC_rnd ((x1.2 _ (by (first | omega | (simp only [push_n, set_n]; done) | (simp only [push_n, set_n]; omega)))).trans (get_push_eq (by (first | omega | (simp only [push_n, set_n]; done) | (simp only [push_n, set_n]; omega))))) (by simp (disch := first | assumption | omega | (simp only [push_n, set_n]; done) | (simp only [push_n, set_n]; omega) | fail) only [go_sem, ↓reduceIte, Nat.reduceEqDiff, Nat.reduceAdd, Nat.reduceMul, Int.reduceToNat, Int.reduceAdd, Int.reduceTDiv, Nat.reduceLeDiff]; rfl) ?_
    simp (disch := first | assumption | omega | (simp only [push_n, set_n]; done) | (simp only [push_n, set_n]; omega) | fail) only [go_sem, ↓reduceIte, Nat.reduceEqDiff, Nat.reduceAdd, Nat.reduceMul, Int.reduceToNat, Int.reduceAdd, Int.reduceTDiv, Nat.reduceLeDiff, A2, A3, A4, A5, x1.2, ix, il, g1, g2, One.cells, flat_length]
    refine q _ ⟨by (first | omega | (simp only [push_n, set_n]; done) | (simp only [push_n, set_n]; omega)), fun j hj hjl => ?_⟩ ⟨by (first | omega | (simp only [push_n, set_n]; done) | (simp only [push_n, set_n]; omega)), by (first | omega | (simp only [push_n, set_n]; done) | (simp only [push_n, set_n]; omega)), lx, ?_, fun _ => ?_⟩
    · simp (disch := first | assumption | omega | (simp only [push_n, set_n]; done) | (simp only [push_n, set_n]; omega) | fail) only [go_sem, ↓reduceIte, Nat.reduceEqDiff, Nat.reduceAdd, Nat.reduceMul, Int.reduceToNat, Int.reduceAdd, Int.reduceTDiv, Nat.reduceLeDiff, x1.2]
    · simp (disch := first | assumption | omega | (simp only [push_n, set_n]; done) | (simp only [push_n, set_n]; omega) | fail) only [go_sem, ↓reduceIte, Nat.reduceEqDiff, Nat.reduceAdd, Nat.reduceMul, Int.reduceToNat, Int.reduceAdd, Int.reduceTDiv, Nat.reduceLeDiff, x1.2, ix, List.length_set]
    · simp (disch := first | assumption | omega | (simp only [push_n, set_n]; done) | (simp only [push_n, set_n]; omega) | fail) only [go_sem, ↓reduceIte, Nat.reduceEqDiff, Nat.reduceAdd, Nat.reduceMul, Int.reduceToNat, Int.reduceAdd, Int.reduceTDiv, Nat.reduceLeDiff, bitB]
  · intro h1 x1 hrun
    have n_x1 := Ext.n_le x1; try simp only [push_n, set_n] at n_x1
    have xn := hi.xn
    have ln := hi.ln
    have lx := hi.ne
    have ix := hi.x
    simp (disch := first | assumption | omega | (simp only [push_n, set_n]; done) | (simp only [push_n, set_n]; omega) | fail) only [go_sem, ↓reduceIte, Nat.reduceEqDiff, Nat.reduceAdd, Nat.reduceMul, Int.reduceToNat, Int.reduceAdd, Int.reduceTDiv, Nat.reduceLeDiff, A2, A3, A4, A5, x1.2]
    refine f58_spec (many := 1) (l := l) (xb := xb) (lb := lb) ?_ hn (by decide) ?_ ?_
    · exact hi.ext (by repeat (first | assumption | exact Ext.refl _ | refine Ext.push ?_ | refine Ext.set ?_ (by omega) | refine Ext.trans ?_ (by assumption)))
    · intro i h2 x2 hrow
      have n_x2 := Ext.n_le x2; try simp only [push_n, set_n] at n_x2
      have hil : i < l.length := by have := (rowI_lt hrow).2; simpa [frees] using this
      have hne : l ≠ [] := by intro e; subst e; simp at hil
      have il := hi.l hne
      have g2 : setAt (l.map One.cells).flatten (i * 6) [.int .i64 1, .int .i64 k, .int .i64 0, .int .i64 0, ub 0#64, ub 1#64] = ((l.set i ⟨.run k 0#64, 1#64⟩).map One.cells).flatten := one_set0 (o' := ⟨.run k 0#64, 1#64⟩) hil
      have hs : smallM l k = (⟨i, 0, k, 0, true⟩, 0, l.set i ⟨.run k 0#64, 1#64⟩) := by unfold smallM; simp only [hrun, hrow]
      rw [hs] at q
      simp (disch := first | assumption | omega | (simp only [push_n, set_n]; done) | (simp only [push_n, set_n]; omega) | fail) only [go_sem, ↓reduceIte, Nat.reduceEqDiff, Nat.reduceAdd, Nat.reduceMul, Int.reduceToNat, Int.reduceAdd, Int.reduceTDiv, Nat.reduceLeDiff, A2, A3, A4, A5, x1.2, x2.2, ix, il, flat_length, g2]
      refine q _ ⟨by (first | omega | (simp only [push_n, set_n]; done) | (simp only [push_n, set_n]; omega)), fun j hj hjl => ?_⟩ ⟨by (first | omega | (simp only [push_n, set_n]; done) | (simp only [push_n, set_n]; omega)), by (first | omega | (simp only [push_n, set_n]; done) | (simp only [push_n, set_n]; omega)), lx, ?_, fun _ => ?_⟩
      · simp (disch := first | assumption | omega | (simp only [push_n, set_n]; done) | (simp only [push_n, set_n]; omega) | fail) only [go_sem, ↓reduceIte, Nat.reduceEqDiff, Nat.reduceAdd, Nat.reduceMul, Int.reduceToNat, Int.reduceAdd, Int.reduceTDiv, Nat.reduceLeDiff, x1.2, x2.2]
      · simp (disch := first | assumption | omega | (simp only [push_n, set_n]; done) | (simp only [push_n, set_n]; omega) | fail) only [go_sem, ↓reduceIte, Nat.reduceEqDiff, Nat.reduceAdd, Nat.reduceMul, Int.reduceToNat, Int.reduceAdd, Int.reduceTDiv, Nat.reduceLeDiff, x1.2, x2.2, ix, List.length_set]
      · simp (disch := first | assumption | omega | (simp only [push_n, set_n]; done) | (simp only [push_n, set_n]; omega) | fail) only [go_sem, ↓reduceIte, Nat.reduceEqDiff, Nat.reduceAdd, Nat.reduceMul, Int.reduceToNat, Int.reduceAdd, Int.reduceTDiv, Nat.reduceLeDiff]
    · intro h2 x2 hrow
      have n_x2 := Ext.n_le x2; try simp only [push_n, set_n] at n_x2
      have hs : smallM l k = (⟨0, 0, 0, 0, false⟩, 2, l) := by unfold smallM; simp only [hrun, hrow]
      rw [hs] at q
      simp (disch := first | assumption | omega | (simp only [push_n, set_n]; done) | (simp only [push_n, set_n]; omega) | fail) only [go_sem, ↓reduceIte, Nat.reduceEqDiff, Nat.reduceAdd, Nat.reduceMul, Int.reduceToNat, Int.reduceAdd, Int.reduceTDiv, Nat.reduceLeDiff, A2, A3, A4, A5, x1.2, x2.2]
      exact q _ (Ext.upd (by repeat (first | assumption | exact Ext.refl _ | refine Ext.push ?_ | refine Ext.set ?_ (by omega) | refine Ext.trans ?_ (by assumption)))) (hi.ext (by repeat (first | assumption | exact Ext.refl _ | refine Ext.push ?_ | refine Ext.set ?_ (by omega) | refine Ext.trans ?_ (by assumption))))
end Go.Am.YtdcppkhobfbpeaaDoor
