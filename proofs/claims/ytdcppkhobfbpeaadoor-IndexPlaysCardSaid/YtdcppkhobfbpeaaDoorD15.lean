/-
  What the statements' tables are like; the statement IndexFrees on the abstract machine.
-/
import Derived.Test.YtdcppkhobfbpeaaDoorD14
set_option linter.unusedVariables false
set_option linter.unusedSimpArgs false
namespace Go.Am.YtdcppkhobfbpeaaDoor
open Go Go.Am Go.Proofs

def FitsC (cs : List Ck) : Prop := ∀ i c, cs[i]? = some c → c.kind = 2 → i + c.many ≤ cs.length
structure Good (cs : List Ck) : Prop where
  ok : ∀ c ∈ cs, c.ok
  fits : FitsC cs
  len : cs.length ≤ 20
theorem tails_mem {c x : Ck} (h : x ∈ tailsOf c) : x = .tail := by
  unfold tailsOf at h
  exact List.eq_of_mem_replicate h
theorem good_app {out : List Ck} {c : Ck} (hg : Good out) (hl : out.length < 20) (hc : c.ok) (hf : c.kind = 2 → out.length + c.many ≤ 20) : Good (out ++ c :: tailsOf c) := by
  have hm : c.kind = 2 → 1 ≤ c.many := fun h => by
    obtain ⟨n, e⟩ := Ck.kind_huge h
    rw [e] at hc ⊢; exact hc.1
  have ht : (tailsOf c).length = if c.kind = 2 then c.many - 1 else 0 := by unfold tailsOf; rw [List.length_replicate]
  have hlen : (out ++ c :: tailsOf c).length = out.length + 1 + (tailsOf c).length := by simp; omega
  refine ⟨fun x hx => ?_, fun i x hx hk => ?_, ?_⟩
  · rcases List.mem_append.1 hx with h | h
    · exact hg.ok x h
    · rcases List.mem_cons.1 h with h | h
      · subst h; exact hc
      · rw [tails_mem h]; trivial
  · rw [hlen]
    rcases Nat.lt_or_ge i out.length with h | h
    · rw [List.getElem?_append_left h] at hx
      have := hg.fits i x hx hk
      omega
    · rw [List.getElem?_append_right h] at hx
      cases hi : i - out.length with
      | zero =>
        rw [hi] at hx
        simp at hx
        subst hx
        rw [ht, if_pos hk]
        have := hm hk
        omega
      | succ j =>
        rw [hi] at hx
        simp at hx
        have := tails_mem (List.mem_of_getElem? hx)
        subst this
        simp [Ck.kind] at hk
  · rw [hlen, ht]
    split
    · rename_i h; have := hf h; have := hm h; omega
    · omega
theorem made_good : ∀ (ns : List Nat) (out : List Ck), Good out → Good (madeAux out ns)
  | [], out, h => h
  | n :: r, out, h => by
    unfold madeAux
    split
    · rename_i hl
      refine made_good r _ (good_app h hl (fitC_ok (madeC_ok n)) ?_)
      intro hk
      unfold fitC at hk ⊢
      split at hk
      · simp [Ck.kind] at hk
      · rename_i h2
        rw [if_neg h2]
        omega
    · exact h
theorem madeM_good (ns : List Nat) : Good (madeM ns) := made_good ns [] ⟨by simp, fun i c h => by simp at h, by simp⟩
def news (cs : List Ck) : List One := cs.map fun c => ⟨c, 0#64⟩
theorem news_fits {cs : List Ck} (h : FitsC cs) : Fits (news cs) := by
  intro i o ho hk
  unfold news at ho ⊢
  rw [List.getElem?_map] at ho
  rw [List.length_map]
  cases hc : cs[i]? with
  | none => rw [hc] at ho; cases ho
  | some c =>
    rw [hc] at ho
    injection ho with ho
    subst ho
    exact h i c hc hk
theorem news_t {cs : List Ck} : ∀ o ∈ news cs, o.t = 0#64 := by
  intro o ho
  obtain ⟨c, _, rfl⟩ := List.mem_map.1 ho
  rfl
theorem frees_made (ns : List Nat) (n : Nat) : FreesOK (news (madeM ns)) n := by
  have hg := madeM_good ns
  cases hc : clsOf n with
  | some k =>
    have hk : k < 3 := by unfold clsOf at hc; repeat (first | (injection hc with hc; omega) | cases hc | split at hc)
    exact small_ok hc hk news_t (news_fits hg.fits)
  | none =>
    refine large_ok hc ?_ (news_fits hg.fits)
    unfold chunksOf; omega
set_option maxHeartbeats 1000000 in
theorem f3_spec {h : Heap} {Q : Value → Heap → Prop} {tv : Value} {ns : List Nat} {s : Nat} (hb : blocks h) (hr : RS h 1 tv (ns.map u16C)) (h16 : ∀ n ∈ ns, n < 65536) (hs : s < 65536)
    (q : ∀ h', h.n ≤ h'.n → Q (.bool true) h') : WC T (.func (.func 3) #[] #[]) [tv, .int .u16 s] h Q := by
  refine WC_fn T3 rfl ?_
  have lt : ∀ H, lenE H tv = some (.int .i64 ns.length, H) := fun H => by have := hr.len (h' := H); simpa using this
  simp (disch := first | assumption | omega | (simp only [push_n, set_n]; done) | (simp only [push_n, set_n]; omega) | fail) only [go_sem, ↓reduceIte, Nat.reduceEqDiff, Nat.reduceAdd, Nat.reduceMul, Int.reduceToNat, Int.reduceAdd, Int.reduceTDiv, Nat.reduceLeDiff, ir3]
  refine f9_spec hb fun h1 x1 => ?_
  have n_x1 := Ext.n_le x1; try simp only [push_n, set_n] at n_x1
  by_cases h40 : 40 < ns.length
  · simp (disch := first | assumption | omega | (simp only [push_n, set_n]; done) | (simp only [push_n, set_n]; omega) | fail) only [go_sem, ↓reduceIte, Nat.reduceEqDiff, Nat.reduceAdd, Nat.reduceMul, Int.reduceToNat, Int.reduceAdd, Int.reduceTDiv, Nat.reduceLeDiff, lt]
    exact q _ x1.1
  simp (disch := first | assumption | omega | (simp only [push_n, set_n]; done) | (simp only [push_n, set_n]; omega) | fail) only [go_sem, ↓reduceIte, Nat.reduceEqDiff, Nat.reduceAdd, Nat.reduceMul, Int.reduceToNat, Int.reduceAdd, Int.reduceTDiv, Nat.reduceLeDiff, lt]
  refine f11_spec (hr.mono x1) (by omega) h16 fun v h2 x2 o2 => ?_
  have n_x2 := Ext.n_le x2; try simp only [push_n, set_n] at n_x2
  have hg := madeM_good ns
  have b2 : blocks h2 := (hb.ext x1).ext x2
  simp (disch := first | assumption | omega | (simp only [push_n, set_n]; done) | (simp only [push_n, set_n]; omega) | fail) only [go_sem, ↓reduceIte, Nat.reduceEqDiff, Nat.reduceAdd, Nat.reduceMul, Int.reduceToNat, Int.reduceAdd, Int.reduceTDiv, Nat.reduceLeDiff]
  refine f10_spec (cs := madeM ns) b2 o2.rs hg.ok (by have := hg.len; omega) ?_
  intro xb lb h3 x3 hxb hlb i3
  have n_x3 := Ext.n_le x3; try simp only [push_n, set_n] at n_x3
  have hfo := frees_made ns (s % 700)
  have hml := hg.len
  change IX h3 xb lb (news (madeM ns)) at i3
  have hnl : (news (madeM ns)).length ≤ 20 := by simp [news]; exact hml
  have b3 : blocks h3 := b2.ext x3
  have e7 : (s : Int).tmod 700 = ((s % 700 : Nat) : Int) := by rw [Int.tmod_eq_emod_of_nonneg (by omega)]; omega
  generalize news (madeM ns) = l at *
  simp (disch := first | assumption | omega | (simp only [push_n, set_n]; done) | (simp only [push_n, set_n]; omega) | fail) only [go_sem, ↓reduceIte, Nat.reduceEqDiff, Nat.reduceAdd, Nat.reduceMul, Int.reduceToNat, Int.reduceAdd, Int.reduceTDiv, Nat.reduceLeDiff, e7]
  refine f12_spec (n := s % 700) (l := l) (xb := xb) (lb := lb) b3 i3 (by omega) (by omega) ?_
  intro h4 u4 i4
  have n4 := u4.1
  have hlb0 : lb ≠ 0 := by have := hb.1; omega
  have b4 : blocks h4 := b3.upd u4 hlb0
  have hm7 : s % 700 ≤ 4096 := by omega
  generalize s % 700 = m at *
  rcases hfo with h2c | ⟨h0, l2, l3, k2, k3, k4, e0, e1, e2, e3, e4, n2, n3, nT, f2, f3⟩
  · generalize takeM l m = r at *
    obtain ⟨p, e, l'⟩ := r
    simp only at h2c i4
    subst h2c
    simp (disch := first | assumption | omega | (simp only [push_n, set_n]; done) | (simp only [push_n, set_n]; omega) | fail) only [go_sem, ↓reduceIte, Nat.reduceEqDiff, Nat.reduceAdd, Nat.reduceMul, Int.reduceToNat, Int.reduceAdd, Int.reduceTDiv, Nat.reduceLeDiff, Pl.cells]
    exact q _ (by (first | omega | (simp only [push_n, set_n]; done) | (simp only [push_n, set_n]; omega)))
  · generalize takeM l m = r at *
    obtain ⟨⟨pc, pi, pk, pm, pf⟩, e, l'⟩ := r
    simp only at h0 k2 k3 k4 e1 e2 e3 e4 nT i4
    subst h0
    simp (disch := first | assumption | omega | (simp only [push_n, set_n]; done) | (simp only [push_n, set_n]; omega) | fail) only [go_sem, ↓reduceIte, Nat.reduceEqDiff, Nat.reduceAdd, Nat.reduceMul, Int.reduceToNat, Int.reduceAdd, Int.reduceTDiv, Nat.reduceLeDiff, Pl.cells]
    refine f13_spec (p := ⟨pc, pi, pk, pm, pf⟩) (l := l') (xb := xb) (lb := lb) (b4.ext (by repeat (first | assumption | exact Ext.refl _ | refine Ext.push ?_ | refine Ext.set ?_ (by omega) | refine Ext.trans ?_ (by assumption)))) (i4.ext (by repeat (first | assumption | exact Ext.refl _ | refine Ext.push ?_ | refine Ext.set ?_ (by omega) | refine Ext.trans ?_ (by assumption)))) (by omega) ?_
    rw [k2]
    intro h5 u5 i5
    have n5 := u5.1
    simp only [push_n] at n5
    change IX h5 xb lb l2 at i5
    have b5 : blocks h5 := (b4.ext (h' := h4.push _) (by repeat (first | assumption | exact Ext.refl _ | refine Ext.push ?_ | refine Ext.set ?_ (by omega) | refine Ext.trans ?_ (by assumption)))).upd u5 hlb0
    have l4 : lb < h4.n := i4.ln
    have hl4 : h4.n ≠ lb := by omega
    simp (disch := first | assumption | omega | (simp only [push_n, set_n]; done) | (simp only [push_n, set_n]; omega) | fail) only [go_sem, ↓reduceIte, Nat.reduceEqDiff, Nat.reduceAdd, Nat.reduceMul, Int.reduceToNat, Int.reduceAdd, Int.reduceTDiv, Nat.reduceLeDiff, Pl.cells, okM, u5.2]
    refine f14_spec (p := ⟨pc, pi, pk, pm, pf⟩) (l := l2) (xb := xb) (lb := lb) b5 i5 (by omega) f2 ?_
    rw [k3]
    intro h6 u6 i6
    have n6 := u6.1
    change IX h6 xb lb l3 at i6
    have b6 : blocks h6 := b5.upd u6 hlb0
    simp (disch := first | assumption | omega | (simp only [push_n, set_n]; done) | (simp only [push_n, set_n]; omega) | fail) only [go_sem, ↓reduceIte, Nat.reduceEqDiff, Nat.reduceAdd, Nat.reduceMul, Int.reduceToNat, Int.reduceAdd, Int.reduceTDiv, Nat.reduceLeDiff, Pl.cells, okM, u5.2, u6.2]
    refine f14_spec (p := ⟨pc, pi, pk, pm, pf⟩) (l := l3) (xb := xb) (lb := lb) b6 i6 (by omega) f3 ?_
    rw [k4]
    intro h7 u7 i7
    have n7 := u7.1
    change IX h7 xb lb l3 at i7
    have b7 : blocks h7 := b6.upd u7 hlb0
    simp (disch := first | assumption | omega | (simp only [push_n, set_n]; done) | (simp only [push_n, set_n]; omega) | fail) only [go_sem, ↓reduceIte, Nat.reduceEqDiff, Nat.reduceAdd, Nat.reduceMul, Int.reduceToNat, Int.reduceAdd, Int.reduceTDiv, Nat.reduceLeDiff, Pl.cells, okM, u5.2, u6.2, u7.2]
    refine f12_spec (n := m) (l := l3) (xb := xb) (lb := lb) b7 i7 (by omega) (by omega) ?_
    intro h8 u8 i8
    have n8 := u8.1
    generalize takeM l3 m = r at *
    obtain ⟨⟨qc, qi, qk, qm, qf⟩, e', l4'⟩ := r
    simp only at e0 e1 e2 e3 e4
    subst e0 e1 e2 e3 e4
    simp (disch := first | assumption | omega | (simp only [push_n, set_n]; done) | (simp only [push_n, set_n]; omega) | fail) only [go_sem, ↓reduceIte, Nat.reduceEqDiff, Nat.reduceAdd, Nat.reduceMul, Int.reduceToNat, Int.reduceAdd, Int.reduceTDiv, Nat.reduceLeDiff, Pl.cells, okM, u5.2, u6.2, u7.2, u8.2]
    exact q _ (by (first | omega | (simp only [push_n, set_n]; done) | (simp only [push_n, set_n]; omega)))
end Go.Am.YtdcppkhobfbpeaaDoor
