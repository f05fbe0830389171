/-
  A table's words, as chunks.
-/
import Derived.Test.YtdcppkhobfbpeaaDoorD4
set_option linter.unusedVariables false
set_option linter.unusedSimpArgs false
namespace Go.Am.YtdcppkhobfbpeaaDoor
open Go Go.Am Go.Proofs

def Ck.word (c : Ck) : List Value := [ub c.enc]

theorem f17_spec {h : Heap} {Q : Value → Heap → Prop} {tv : Value} {cs : List Ck} (hb : blocks h) (hr : RS h 1 tv (cs.map Ck.word)) (hok : ∀ c ∈ cs, c.ok) (hn : cs.length ≤ 1000)
    (q : ∀ v h', Ext h h' → OS h' 47 5 h.n v (cs.map Ck.cells) → Q (.tuple #[v, .bool true]) h') : WC T (.func (.func 17) #[] #[]) [tv] h Q := by
  refine WC_fn T17 rfl ?_
  obtain ⟨al, ac, hv⟩ := hr.lenV
  subst hv
  simp (disch := first | assumption | omega | (simp only [push_n, set_n]; done) | (simp only [push_n, set_n]; omega) | fail) only [go_sem, ↓reduceIte, Nat.reduceEqDiff, Nat.reduceAdd, Nat.reduceMul, Int.reduceToNat, Int.reduceAdd, Int.reduceTDiv, Nat.reduceLeDiff, ir17]
  refine WE_loop (fun m a h' => ∃ (k : Nat) (v : Value), m = cs.length - k ∧ k ≤ cs.length ∧ a.get 4 = v ∧ a.get 9 = .slice al cs.length ac ∧ a.get 10 = .int .i64 cs.length ∧ a.get 11 = .int .i64 k ∧ a.marks = [] ∧ Ext h h' ∧ OS h' 47 5 h.n v ((cs.take k).map Ck.cells)) ?_ (m := cs.length) ⟨0, _, by omega, by omega, by simp (disch := first | assumption | omega | (simp only [push_n, set_n]; done) | (simp only [push_n, set_n]; omega) | fail) only [go_sem, ↓reduceIte, Nat.reduceEqDiff, Nat.reduceAdd, Nat.reduceMul, Int.reduceToNat, Int.reduceAdd, Int.reduceTDiv, Nat.reduceLeDiff], by simp (disch := first | assumption | omega | (simp only [push_n, set_n]; done) | (simp only [push_n, set_n]; omega) | fail) only [go_sem, ↓reduceIte, Nat.reduceEqDiff, Nat.reduceAdd, Nat.reduceMul, Int.reduceToNat, Int.reduceAdd, Int.reduceTDiv, Nat.reduceLeDiff], by simp (disch := first | assumption | omega | (simp only [push_n, set_n]; done) | (simp only [push_n, set_n]; omega) | fail) only [go_sem, ↓reduceIte, Nat.reduceEqDiff, Nat.reduceAdd, Nat.reduceMul, Int.reduceToNat, Int.reduceAdd, Int.reduceTDiv, Nat.reduceLeDiff], by simp (disch := first | assumption | omega | (simp only [push_n, set_n]; done) | (simp only [push_n, set_n]; omega) | fail) only [go_sem, ↓reduceIte, Nat.reduceEqDiff, Nat.reduceAdd, Nat.reduceMul, Int.reduceToNat, Int.reduceAdd, Int.reduceTDiv, Nat.reduceLeDiff], rfl, Ext.refl _, OS.nil⟩
  rintro m a h1 ⟨k, v, rfl, hk, a4, a9, a10, a11, am, hx, ho⟩
  have n_hx := Ext.n_le hx; try simp only [push_n, set_n] at n_hx
  by_cases hkn : k < cs.length
  · obtain ⟨b, c0, e, ro, hv, hg, hbn⟩ := hr.atM hkn
    injection hv with hv1 hv2 hv3
    subst hv1 hv3
    obtain ⟨c, hc⟩ : ∃ c, cs[k]? = some c := ⟨_, List.getElem?_eq_getElem hkn⟩
    have hcm : c ∈ cs := List.mem_of_getElem? hc
    have hl := getAt_map1 (f := Ck.word) (fun _ => rfl) hc
    simp (disch := first | assumption | omega | (simp only [push_n, set_n]; done) | (simp only [push_n, set_n]; omega) | fail) only [go_sem, ↓reduceIte, Nat.reduceEqDiff, Nat.reduceAdd, Nat.reduceMul, Int.reduceToNat, Int.reduceAdd, Int.reduceTDiv, Nat.reduceLeDiff, a4, a9, a10, a11, am, hx.2, hg, hl, Ck.word]
    refine f51_spec (hb.ext hx) (hok c hcm) fun h2 x2 => ?_
    have n_x2 := Ext.n_le x2; try simp only [push_n, set_n] at n_x2
    obtain ⟨v', h3, e1, o3, x3, n3, g3, vc⟩ := OS.app_ext (h := (h2.push (.cells c.cells 47 false)).push (.cells c.cells 47 false)) (B := h2.n + 1) (bytes := 40) (by repeat (first | assumption | exact Ext.refl _ | refine Ext.push ?_ | refine Ext.set ?_ (by omega) | refine Ext.trans ?_ (by assumption))) (ho.ext (h' := (h2.push (.cells c.cells 47 false)).push (.cells c.cells 47 false)) (by repeat (first | assumption | exact Ext.refl _ | refine Ext.push ?_ | refine Ext.set ?_ (by omega) | refine Ext.trans ?_ (by assumption)))) (get_push_eq (by (first | omega | (simp only [push_n, set_n]; done) | (simp only [push_n, set_n]; omega)))) rfl (by decide) (by simp; omega)
    simp (disch := first | assumption | omega | (simp only [push_n, set_n]; done) | (simp only [push_n, set_n]; omega) | fail) only [go_sem, ↓reduceIte, Nat.reduceEqDiff, Nat.reduceAdd, Nat.reduceMul, Int.reduceToNat, Int.reduceAdd, Int.reduceTDiv, Nat.reduceLeDiff, a4, a9, a10, a11, am, e1]
    exact ⟨_, Nat.sub_lt_sub_left hkn (Nat.lt_succ_self k), k + 1, v', rfl, by omega, rfl, rfl, x3, by rw [take_succ hc, List.map_append]; exact o3⟩
  · obtain rfl : k = cs.length := by omega
    simp (disch := first | assumption | omega | (simp only [push_n, set_n]; done) | (simp only [push_n, set_n]; omega) | fail) only [go_sem, ↓reduceIte, Nat.reduceEqDiff, Nat.reduceAdd, Nat.reduceMul, Int.reduceToNat, Int.reduceAdd, Int.reduceTDiv, Nat.reduceLeDiff, a4, a9, a10, a11, am]
    rw [List.take_length] at ho
    exact q _ _ hx ho

/-- What is known of a chunk. -/
structure One where
  c : Ck
  t : BitVec 64
def One.cells (o : One) : List Value := [.int .i64 o.c.kind, .int .i64 o.c.cls, .int .i64 o.c.lane, .int .i64 o.c.many, ub o.c.bits, ub o.t]
def One.free (o : One) : Bool := match o.c with
  | .free => true
  | .run _ b => decide (b = 0#64 ∧ o.t = 0#64)
  | _ => false

/-- An index: what it knows lies in a block. -/
structure IX (h : Heap) (xb lb : Nat) (l : List One) : Prop where
  xn : xb < h.n
  ln : lb < h.n
  ne : lb ≠ xb
  x : h.get xb = .cells [ixv lb l.length] 73 false
  l : l ≠ [] → h.get lb = .cells (l.map One.cells).flatten 75 false
theorem IX.ext {h h' : Heap} {xb lb : Nat} {l : List One} (hi : IX h xb lb l) (hx : Ext h h') : IX h' xb lb l :=
  ⟨Nat.lt_of_lt_of_le hi.xn hx.1, Nat.lt_of_lt_of_le hi.ln hx.1, hi.ne, (hx.2 _ hi.xn).trans hi.x, fun hn => (hx.2 _ hi.ln).trans (hi.l hn)⟩

theorem f10_spec {h : Heap} {Q : Value → Heap → Prop} {tv : Value} {cs : List Ck} (hb : blocks h) (hr : RS h 1 tv (cs.map Ck.word)) (hok : ∀ c ∈ cs, c.ok) (hn : cs.length ≤ 1000)
    (q : ∀ xb lb h', Ext h h' → h.n ≤ xb → (lb = 1 ∧ cs = [] ∨ h.n ≤ lb) → IX h' xb lb (cs.map fun c => ⟨c, 0#64⟩) → Q (.pointer (some ⟨xb, 0, none⟩)) h') : WC T (.func (.func 10) #[] #[]) [tv] h Q := by
  refine WC_fn T10 rfl ?_
  simp (disch := first | assumption | omega | (simp only [push_n, set_n]; done) | (simp only [push_n, set_n]; omega) | fail) only [go_sem, ↓reduceIte, Nat.reduceEqDiff, Nat.reduceAdd, Nat.reduceMul, Int.reduceToNat, Int.reduceAdd, Int.reduceTDiv, Nat.reduceLeDiff, ir10]
  refine f17_spec (hb.ext (by repeat (first | assumption | exact Ext.refl _ | refine Ext.push ?_ | refine Ext.set ?_ (by omega) | refine Ext.trans ?_ (by assumption)))) (hr.mono (by repeat (first | assumption | exact Ext.refl _ | refine Ext.push ?_ | refine Ext.set ?_ (by omega) | refine Ext.trans ?_ (by assumption)))) hok hn fun v h1 x1 o1 => ?_
  have n_x1 := Ext.n_le x1; try simp only [push_n, set_n] at n_x1
  have hv := o1.ixv
  rw [List.length_map] at hv
  rw [hv]
  simp (disch := first | assumption | omega | (simp only [push_n, set_n]; done) | (simp only [push_n, set_n]; omega) | fail) only [go_sem, ↓reduceIte, Nat.reduceEqDiff, Nat.reduceAdd, Nat.reduceMul, Int.reduceToNat, Int.reduceAdd, Int.reduceTDiv, Nat.reduceLeDiff, x1.2]
  have hvs : cs ≠ [] → h.n + 1 ≤ vb v ∧ vb v < h1.n ∧ h1.get (vb v) = .cells (cs.map Ck.cells).flatten 47 false := fun hne => by
    have hne' : cs.map Ck.cells ≠ [] := by simpa using hne
    have h2 := o1.vb_le hne'
    simp only [push_n] at h2
    exact ⟨h2.1, h2.2, o1.cells hne'⟩
  have g0 : h1.get h.n = .cells [.slice none 0 0] 73 false := by simp (disch := first | assumption | omega | (simp only [push_n, set_n]; done) | (simp only [push_n, set_n]; omega) | fail) only [go_sem, ↓reduceIte, Nat.reduceEqDiff, Nat.reduceAdd, Nat.reduceMul, Int.reduceToNat, Int.reduceAdd, Int.reduceTDiv, Nat.reduceLeDiff, x1.2]
  have gx : ∀ i, i < h.n → h1.get i = h.get i := fun i hi => by simp (disch := first | assumption | omega | (simp only [push_n, set_n]; done) | (simp only [push_n, set_n]; omega) | fail) only [go_sem, ↓reduceIte, Nat.reduceEqDiff, Nat.reduceAdd, Nat.reduceMul, Int.reduceToNat, Int.reduceAdd, Int.reduceTDiv, Nat.reduceLeDiff, x1.2]
  clear hv
  generalize hD : vb v = D at *
  refine WE_loop (fun m a h' => ∃ (k : Nat) (w : Value), m = cs.length - k ∧ k ≤ cs.length ∧ a.get 3 = .pointer (some ⟨h.n, 0, none⟩) ∧ a.get 15 = ixv D cs.length ∧ a.get 16 = .int .i64 cs.length ∧ a.get 17 = .int .i64 k ∧ a.marks = [] ∧ h1.n ≤ h'.n ∧ (∀ i, i < h1.n → i ≠ h.n → h'.get i = h1.get i) ∧ h'.get h.n = .cells [w] 73 false ∧ OS h' 75 6 h1.n w ((cs.take k).map fun c => One.cells ⟨c, 0#64⟩)) ?_ (m := cs.length) ⟨0, .slice none 0 0, by omega, by omega, by simp (disch := first | assumption | omega | (simp only [push_n, set_n]; done) | (simp only [push_n, set_n]; omega) | fail) only [go_sem, ↓reduceIte, Nat.reduceEqDiff, Nat.reduceAdd, Nat.reduceMul, Int.reduceToNat, Int.reduceAdd, Int.reduceTDiv, Nat.reduceLeDiff], by simp (disch := first | assumption | omega | (simp only [push_n, set_n]; done) | (simp only [push_n, set_n]; omega) | fail) only [go_sem, ↓reduceIte, Nat.reduceEqDiff, Nat.reduceAdd, Nat.reduceMul, Int.reduceToNat, Int.reduceAdd, Int.reduceTDiv, Nat.reduceLeDiff], by simp (disch := first | assumption | omega | (simp only [push_n, set_n]; done) | (simp only [push_n, set_n]; omega) | fail) only [go_sem, ↓reduceIte, Nat.reduceEqDiff, Nat.reduceAdd, Nat.reduceMul, Int.reduceToNat, Int.reduceAdd, Int.reduceTDiv, Nat.reduceLeDiff], by simp (disch := first | assumption | omega | (simp only [push_n, set_n]; done) | (simp only [push_n, set_n]; omega) | fail) only [go_sem, ↓reduceIte, Nat.reduceEqDiff, Nat.reduceAdd, Nat.reduceMul, Int.reduceToNat, Int.reduceAdd, Int.reduceTDiv, Nat.reduceLeDiff], rfl, Nat.le_refl _, fun _ _ _ => rfl, g0, OS.nil⟩
  rintro m a h2 ⟨k, w, rfl, hk, a3, a15, a16, a17, am, n2, g2, gw, ho⟩
  by_cases hkn : k < cs.length
  · obtain ⟨c, hc⟩ : ∃ c, cs[k]? = some c := ⟨_, List.getElem?_eq_getElem hkn⟩
    have hne : cs ≠ [] := by intro e; subst e; simp at hkn
    obtain ⟨d1, d2, d3⟩ := hvs hne
    have hl := getAt_map (f := Ck.cells) (s := 5) (fun _ => rfl) hc
    have gD := (g2 D d2 (by omega)).trans d3
    simp (disch := first | assumption | omega | (simp only [push_n, set_n]; done) | (simp only [push_n, set_n]; omega) | fail) only [go_sem, ↓reduceIte, Nat.reduceEqDiff, Nat.reduceAdd, Nat.reduceMul, Int.reduceToNat, Int.reduceAdd, Int.reduceTDiv, Nat.reduceLeDiff, a3, a15, a16, a17, am, gD, hl, gw]
    obtain ⟨w', h3, e1, o3, n3, g3, b3⟩ := (ho.mono (h' := (h2.push (.cells c.cells 47 false)).push (.cells (One.cells ⟨c, 0#64⟩) 75 false)) (by (first | omega | (simp only [push_n, set_n]; done) | (simp only [push_n, set_n]; omega))) (fun i hi hi2 => by simp (disch := first | assumption | omega | (simp only [push_n, set_n]; done) | (simp only [push_n, set_n]; omega) | fail) only [go_sem, ↓reduceIte, Nat.reduceEqDiff, Nat.reduceAdd, Nat.reduceMul, Int.reduceToNat, Int.reduceAdd, Int.reduceTDiv, Nat.reduceLeDiff])).app (bytes := 48) (B := h2.n + 1) (get_push_eq (by (first | omega | (simp only [push_n, set_n]; done) | (simp only [push_n, set_n]; omega)))) rfl (by (first | omega | (simp only [push_n, set_n]; done) | (simp only [push_n, set_n]; omega))) (by decide) (by simp; omega)
    simp (disch := first | assumption | omega | (simp only [push_n, set_n]; done) | (simp only [push_n, set_n]; omega) | fail) only [go_sem, ↓reduceIte, Nat.reduceEqDiff, Nat.reduceAdd, Nat.reduceMul, Int.reduceToNat, Int.reduceAdd, Int.reduceTDiv, Nat.reduceLeDiff] at n3 g3
    have G : ∀ i, i < h1.n → h3.get i = h2.get i := fun i hi => by
      have := g3 i (by omega) (fun hne => by have := (ho.vb_le hne).1; omega)
      simp (disch := first | assumption | omega | (simp only [push_n, set_n]; done) | (simp only [push_n, set_n]; omega) | fail) only [go_sem, ↓reduceIte, Nat.reduceEqDiff, Nat.reduceAdd, Nat.reduceMul, Int.reduceToNat, Int.reduceAdd, Int.reduceTDiv, Nat.reduceLeDiff] at this
      exact this
    unfold One.cells at e1
    simp (disch := first | assumption | omega | (simp only [push_n, set_n]; done) | (simp only [push_n, set_n]; omega) | fail) only [go_sem, ↓reduceIte, Nat.reduceEqDiff, Nat.reduceAdd, Nat.reduceMul, Int.reduceToNat, Int.reduceAdd, Int.reduceTDiv, Nat.reduceLeDiff, e1, o3.vc, a3, a15, a16, a17, am, G, gw]
    refine ⟨_, Nat.sub_lt_sub_left hkn (Nat.lt_succ_self k), k + 1, w', rfl, by omega, rfl, by omega, fun i hi hi2 => ?_, rfl, ?_⟩
    · simp (disch := first | assumption | omega | (simp only [push_n, set_n]; done) | (simp only [push_n, set_n]; omega) | fail) only [go_sem, ↓reduceIte, Nat.reduceEqDiff, Nat.reduceAdd, Nat.reduceMul, Int.reduceToNat, Int.reduceAdd, Int.reduceTDiv, Nat.reduceLeDiff, G i hi, g2 i hi hi2]
    · rw [take_succ hc, List.map_append]
      exact o3.mono (by (first | omega | (simp only [push_n, set_n]; done) | (simp only [push_n, set_n]; omega))) (fun i hi hi2 => by simp (disch := first | assumption | omega | (simp only [push_n, set_n]; done) | (simp only [push_n, set_n]; omega) | fail) only [go_sem, ↓reduceIte, Nat.reduceEqDiff, Nat.reduceAdd, Nat.reduceMul, Int.reduceToNat, Int.reduceAdd, Int.reduceTDiv, Nat.reduceLeDiff])
  · obtain rfl : k = cs.length := by omega
    simp (disch := first | assumption | omega | (simp only [push_n, set_n]; done) | (simp only [push_n, set_n]; omega) | fail) only [go_sem, ↓reduceIte, Nat.reduceEqDiff, Nat.reduceAdd, Nat.reduceMul, Int.reduceToNat, Int.reduceAdd, Int.reduceTDiv, Nat.reduceLeDiff, a3, a15, a16, a17, am]
    rw [List.take_length] at ho
    have hw := ho.ixv
    rw [List.length_map] at hw
    have h0 := hb.1
    refine q h.n (if cs = [] then 1 else vb w) h2 ⟨by omega, fun i hi => (g2 i (by omega) (by omega)).trans (gx i hi)⟩ (Nat.le_refl _) ?_ ⟨by omega, ?_, ?_, ?_, fun hne => ?_⟩
    · split
      · rename_i he; exact .inl ⟨rfl, he⟩
      · rename_i hne
        have := (ho.vb_le (by simpa using hne)).1
        right; omega
    · split
      · omega
      · rename_i hne; exact (ho.vb_le (by simpa using hne)).2
    · split
      · omega
      · rename_i hne; have := (ho.vb_le (by simpa using hne)).1; omega
    · rw [gw, List.length_map]
      refine (congrArg (fun x => Blk.cells [x] 73 false) hw).trans ?_
      split
      · rename_i e; subst e; rfl
      · rfl
    · have hne' : cs ≠ [] := by simpa using hne
      rw [if_neg hne', ho.cells (by simpa using hne'), List.map_map]
      rfl
end Go.Am.YtdcppkhobfbpeaaDoor
