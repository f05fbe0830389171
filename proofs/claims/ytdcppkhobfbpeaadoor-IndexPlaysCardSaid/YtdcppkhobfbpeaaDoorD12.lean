/-
  The tables of the statements.
-/
import Derived.Test.YtdcppkhobfbpeaaDoorD11
set_option linter.unusedVariables false
set_option linter.unusedSimpArgs false
namespace Go.Am.YtdcppkhobfbpeaaDoor
open Go Go.Am Go.Proofs

def madeB (n : Nat) : BitVec 64 := BitVec.ofInt 64 ((n / 32 : Nat) : Int) % (1#64 <<< manyOf (n / 8 % 3))
def madeC (n : Nat) : Ck :=
  if n % 6 = 1 ∨ n % 6 = 2 then .run (n / 8 % 3) (madeB n)
  else if n % 6 = 3 then .huge (1 + n / 8 % 4)
  else if n % 6 = 4 then .run (n / 8 % 3) 0#64
  else if n % 6 = 5 then .log (n / 8 % 3) (n / 32 % 8)
  else .free
def fitC (len : Nat) (c : Ck) : Ck := if c.kind = 2 ∧ 20 < len + c.many then .free else c
def tailsOf (c : Ck) : List Ck := List.replicate (if c.kind = 2 then c.many - 1 else 0) .tail
def madeAux : List Ck → List Nat → List Ck
  | out, [] => out
  | out, n :: r => if out.length < 20 then madeAux (out ++ fitC out.length (madeC n) :: tailsOf (fitC out.length (madeC n))) r else out
def madeM (ns : List Nat) : List Ck := madeAux [] ns

theorem many_pos (k : Nat) (hk : k < 3) : 1 ≤ manyOf k ∧ manyOf k ≤ 8 := by
  unfold manyOf; repeat (first | omega | split)
theorem madeC_ok (n : Nat) : (madeC n).ok := by
  unfold madeC
  have h3 : n / 8 % 3 < 3 := Nat.mod_lt _ (by omega)
  have h4 := many_pos _ h3
  have h5 : 2 ^ manyOf (n / 8 % 3) ≤ 2 ^ 8 := Nat.pow_le_pow_right (by decide) h4.2
  split
  · refine ⟨h3, ?_⟩
    unfold madeB
    rw [BitVec.toNat_umod, BitVec.toNat_shiftLeft, Nat.shiftLeft_eq, show (1#64).toNat = 1 from rfl, Nat.one_mul, Nat.mod_eq_of_lt (b := 2 ^ 64) (by omega)]
    exact Nat.mod_lt _ (Nat.two_pow_pos _)
  · split
    · exact ⟨by omega, by omega⟩
    · split
      · exact ⟨h3, Nat.two_pow_pos _⟩
      · split
        · exact ⟨by omega, by omega⟩
        · trivial
theorem fitC_ok {len : Nat} {c : Ck} (h : c.ok) : (fitC len c).ok := by
  unfold fitC; split
  · trivial
  · exact h
theorem made_drop {out : List Ck} {ns : List Nat} {i n : Nat} (h : ns[i]? = some n) : madeAux out (ns.drop i) = if out.length < 20 then madeAux (out ++ fitC out.length (madeC n) :: tailsOf (fitC out.length (madeC n))) (ns.drop (i + 1)) else out := by
  have hi : i < ns.length := by
    rcases Nat.lt_or_ge i ns.length with h1 | h1
    · exact h1
    · rw [List.getElem?_eq_none h1] at h; cases h
  rw [List.drop_eq_getElem_cons hi]
  rw [List.getElem?_eq_getElem hi] at h
  injection h with h
  rw [h]; rfl
def u16C (n : Nat) : List Value := [.int .u16 n]

set_option maxHeartbeats 1000000 in
theorem f11_spec {h : Heap} {Q : Value → Heap → Prop} {tv : Value} {ns : List Nat} (hr : RS h 1 tv (ns.map u16C)) (hn : ns.length ≤ 40) (h16 : ∀ n ∈ ns, n < 65536)
    (q : ∀ v h', Ext h h' → OS h' 45 1 h.n v ((madeM ns).map Ck.word) → Q v h') : WC T (.func (.func 11) #[] #[]) [tv, .int .i64 20] h Q := by
  refine WC_fn T11 rfl ?_
  obtain ⟨al, ac, hv⟩ := hr.lenV
  subst hv
  simp (disch := first | assumption | omega | (simp only [push_n, set_n]; done) | (simp only [push_n, set_n]; omega) | fail) only [go_sem, ↓reduceIte, Nat.reduceEqDiff, Nat.reduceAdd, Nat.reduceMul, Int.reduceToNat, Int.reduceAdd, Int.reduceTDiv, Nat.reduceLeDiff, ir11]
  refine WE_loop (fun m a h' => ∃ (i : Nat) (v : Value) (out : List Ck), m = ns.length - i ∧ i ≤ ns.length ∧ out.length ≤ 30 ∧ a.get 0 = .slice al ns.length ac ∧ a.get 1 = .int .i64 20 ∧ a.get 5 = v ∧ a.get 6 = .int .i64 i ∧ a.marks = [] ∧ Ext h h' ∧ OS h' 45 1 h.n v (out.map Ck.word) ∧ madeM ns = madeAux out (ns.drop i)) ?_ (m := ns.length) ⟨0, _, [], by omega, by omega, by simp, by simp (disch := first | assumption | omega | (simp only [push_n, set_n]; done) | (simp only [push_n, set_n]; omega) | fail) only [go_sem, ↓reduceIte, Nat.reduceEqDiff, Nat.reduceAdd, Nat.reduceMul, Int.reduceToNat, Int.reduceAdd, Int.reduceTDiv, Nat.reduceLeDiff], by simp (disch := first | assumption | omega | (simp only [push_n, set_n]; done) | (simp only [push_n, set_n]; omega) | fail) only [go_sem, ↓reduceIte, Nat.reduceEqDiff, Nat.reduceAdd, Nat.reduceMul, Int.reduceToNat, Int.reduceAdd, Int.reduceTDiv, Nat.reduceLeDiff], by simp (disch := first | assumption | omega | (simp only [push_n, set_n]; done) | (simp only [push_n, set_n]; omega) | fail) only [go_sem, ↓reduceIte, Nat.reduceEqDiff, Nat.reduceAdd, Nat.reduceMul, Int.reduceToNat, Int.reduceAdd, Int.reduceTDiv, Nat.reduceLeDiff], by simp (disch := first | assumption | omega | (simp only [push_n, set_n]; done) | (simp only [push_n, set_n]; omega) | fail) only [go_sem, ↓reduceIte, Nat.reduceEqDiff, Nat.reduceAdd, Nat.reduceMul, Int.reduceToNat, Int.reduceAdd, Int.reduceTDiv, Nat.reduceLeDiff], rfl, Ext.refl _, OS.nil, rfl⟩
  rintro m a h1 ⟨i, v, out, rfl, hil, hout, a0, a1, a5, a6, am, hx, ho, hmade⟩
  have n_hx := Ext.n_le hx; try simp only [push_n, set_n] at n_hx
  have lv := ho.rs.len (h' := h1)
  rw [List.length_map] at lv
  have lv2 := fun H => ho.rs.len (h' := H)
  simp only [List.length_map] at lv2
  by_cases hin : i < ns.length
  · obtain ⟨b, c0, e, ro, hv, hg, hbn⟩ := hr.atM hin
    injection hv with hv1 hv2 hv3
    subst hv1 hv3
    obtain ⟨n, hni⟩ : ∃ n, ns[i]? = some n := ⟨_, List.getElem?_eq_getElem hin⟩
    have hn16 := h16 n (List.mem_of_getElem? hni)
    have hl := getAt_map1 (f := u16C) (fun _ => rfl) hni
    rw [made_drop hni] at hmade
    by_cases h20 : out.length < 20
    · rw [if_pos h20] at hmade
      have e6 : (n : Int).tmod 6 = ((n % 6 : Nat) : Int) := by rw [Int.tmod_eq_emod_of_nonneg (by omega)]; omega
      have e8 : (n : Int).tdiv 8 = ((n / 8 : Nat) : Int) := by rw [Int.tdiv_eq_ediv_of_nonneg (by omega)]; omega
      have e32 : (n : Int).tdiv 32 = ((n / 32 : Nat) : Int) := by rw [Int.tdiv_eq_ediv_of_nonneg (by omega)]; omega
      have e83 : ((n / 8 : Nat) : Int).tmod 3 = ((n / 8 % 3 : Nat) : Int) := by rw [Int.tmod_eq_emod_of_nonneg (by omega)]; omega
      have e84 : ((n / 8 : Nat) : Int).tmod 4 = ((n / 8 % 4 : Nat) : Int) := by rw [Int.tmod_eq_emod_of_nonneg (by omega)]; omega
      have e328 : ((n / 32 : Nat) : Int).tmod 8 = ((n / 32 % 8 : Nat) : Int) := by rw [Int.tmod_eq_emod_of_nonneg (by omega)]; omega
      simp (disch := first | assumption | omega | (simp only [push_n, set_n]; done) | (simp only [push_n, set_n]; omega) | fail) only [go_sem, ↓reduceIte, Nat.reduceEqDiff, Nat.reduceAdd, Nat.reduceMul, Int.reduceToNat, Int.reduceAdd, Int.reduceTDiv, Nat.reduceLeDiff, a0, a1, a5, a6, am, hx.2, hg, hl, u16C, lv, e6]
      generalize hR : KS T none (.seq (.seq (.region (⟨some 72, .mov (.tmp 5), none⟩ :: _)) _) _) _ = R
      have rest : ∀ (c : Ck) (a' : AAct), c.ok → madeC n = c → a'.get 0 = .slice (some ⟨b, 0, none⟩) ns.length ac → a'.get 1 = .int .i64 20 → a'.get 5 = v → a'.get 6 = .int .i64 i → a'.get 8 = .pointer (some ⟨h1.n, 0, none⟩) → a'.marks = [] → R .normal a' (h1.push (.cells c.cells 47 false)) := by
        intro c a' hcok hmc a0 a1 a5 a6 a8 am
        rw [← hR]
        clear hR
        rw [hmc] at hmade
        simp (disch := first | assumption | omega | (simp only [push_n, set_n]; done) | (simp only [push_n, set_n]; omega) | fail) only [go_sem, ↓reduceIte, Nat.reduceEqDiff, Nat.reduceAdd, Nat.reduceMul, Int.reduceToNat, Int.reduceAdd, Int.reduceTDiv, Nat.reduceLeDiff, a0, a1, a5, a6, a8, am, lv2]
        generalize hR2 : KS T none (.seq (.region (⟨some 87, .loadN 5 (.tmp 8), none⟩ :: _)) _) _ = R2
        have rest2 : ∀ (c2 : Ck) (a' : AAct), c2.ok → fitC out.length c = c2 → (c2.kind = 2 → out.length + c2.many ≤ 20) → a'.get 0 = .slice (some ⟨b, 0, none⟩) ns.length ac → a'.get 1 = .int .i64 20 → a'.get 5 = v → a'.get 6 = .int .i64 i → a'.get 8 = .pointer (some ⟨h1.n, 0, none⟩) → a'.marks = [] → R2 .normal a' (h1.push (.cells c2.cells 47 false)) := by
          intro c2 a2 hcok2 hfit hle b0 b1 b5 b6 b8 bm
          rw [← hR2]
          clear hR2
          rw [hfit] at hmade
          simp (disch := first | assumption | omega | (simp only [push_n, set_n]; done) | (simp only [push_n, set_n]; omega) | fail) only [go_sem, ↓reduceIte, Nat.reduceEqDiff, Nat.reduceAdd, Nat.reduceMul, Int.reduceToNat, Int.reduceAdd, Int.reduceTDiv, Nat.reduceLeDiff, b0, b1, b5, b6, b8, bm]
          refine f41_spec hcok2 fun h2 x2 => ?_
          have n_x2 := Ext.n_le x2; try simp only [push_n, set_n] at n_x2
          obtain ⟨v', h3, e1, o3, x3, n3, g3, vc⟩ := OS.app_ext (h := h2.push (.cells c2.word 45 false)) (B := h2.n) (bytes := 8) (by repeat (first | assumption | exact Ext.refl _ | refine Ext.push ?_ | refine Ext.set ?_ (by omega) | refine Ext.trans ?_ (by assumption))) ((ho.ext (h' := h2) (by repeat (first | assumption | exact Ext.refl _ | refine Ext.push ?_ | refine Ext.set ?_ (by omega) | refine Ext.trans ?_ (by assumption)))).ext (by repeat (first | assumption | exact Ext.refl _ | refine Ext.push ?_ | refine Ext.set ?_ (by omega) | refine Ext.trans ?_ (by assumption)))) (get_push_eq rfl) rfl (by decide) (by simp; omega)
          unfold Ck.word at e1
          simp only [push_n] at n3
          have gb : h3.get h1.n = .cells c2.cells 47 false := by
            rw [g3 h1.n (by simp only [push_n]; omega) (fun hne => by have := (ho.vb_le hne).2; omega)]
            simp (disch := first | assumption | omega | (simp only [push_n, set_n]; done) | (simp only [push_n, set_n]; omega) | fail) only [go_sem, ↓reduceIte, Nat.reduceEqDiff, Nat.reduceAdd, Nat.reduceMul, Int.reduceToNat, Int.reduceAdd, Int.reduceTDiv, Nat.reduceLeDiff, x2.2]
          simp (disch := first | assumption | omega | (simp only [push_n, set_n]; done) | (simp only [push_n, set_n]; omega) | fail) only [go_sem, ↓reduceIte, Nat.reduceEqDiff, Nat.reduceAdd, Nat.reduceMul, Int.reduceToNat, Int.reduceAdd, Int.reduceTDiv, Nat.reduceLeDiff, b0, b1, b5, b6, b8, bm, e1]
          have lnil : (out ++ [c2]).map Ck.word = out.map Ck.word ++ [c2.word] := by rw [List.map_append]; rfl
          refine WE_loop (fun t a h' => ∃ (j : Nat) (w : Value), t = (tailsOf c2).length + 1 - j ∧ 1 ≤ j ∧ j ≤ (tailsOf c2).length + 1 ∧ a.get 0 = .slice (some ⟨b, 0, none⟩) ns.length ac ∧ a.get 1 = .int .i64 20 ∧ a.get 5 = w ∧ a.get 6 = .int .i64 i ∧ a.get 8 = .pointer (some ⟨h1.n, 0, none⟩) ∧ a.get 11 = .int .i64 j ∧ a.marks = [] ∧ Ext h h' ∧ h1.n < h'.n ∧ h'.get h1.n = .cells c2.cells 47 false ∧ OS h' 45 1 h.n w ((out ++ c2 :: List.replicate (j - 1) Ck.tail).map Ck.word)) ?_ (m := (tailsOf c2).length) ⟨1, v', by omega, by omega, by omega, by simp (disch := first | assumption | omega | (simp only [push_n, set_n]; done) | (simp only [push_n, set_n]; omega) | fail) only [go_sem, ↓reduceIte, Nat.reduceEqDiff, Nat.reduceAdd, Nat.reduceMul, Int.reduceToNat, Int.reduceAdd, Int.reduceTDiv, Nat.reduceLeDiff, b0], by simp (disch := first | assumption | omega | (simp only [push_n, set_n]; done) | (simp only [push_n, set_n]; omega) | fail) only [go_sem, ↓reduceIte, Nat.reduceEqDiff, Nat.reduceAdd, Nat.reduceMul, Int.reduceToNat, Int.reduceAdd, Int.reduceTDiv, Nat.reduceLeDiff, b1], by simp (disch := first | assumption | omega | (simp only [push_n, set_n]; done) | (simp only [push_n, set_n]; omega) | fail) only [go_sem, ↓reduceIte, Nat.reduceEqDiff, Nat.reduceAdd, Nat.reduceMul, Int.reduceToNat, Int.reduceAdd, Int.reduceTDiv, Nat.reduceLeDiff], by simp (disch := first | assumption | omega | (simp only [push_n, set_n]; done) | (simp only [push_n, set_n]; omega) | fail) only [go_sem, ↓reduceIte, Nat.reduceEqDiff, Nat.reduceAdd, Nat.reduceMul, Int.reduceToNat, Int.reduceAdd, Int.reduceTDiv, Nat.reduceLeDiff, b6], by simp (disch := first | assumption | omega | (simp only [push_n, set_n]; done) | (simp only [push_n, set_n]; omega) | fail) only [go_sem, ↓reduceIte, Nat.reduceEqDiff, Nat.reduceAdd, Nat.reduceMul, Int.reduceToNat, Int.reduceAdd, Int.reduceTDiv, Nat.reduceLeDiff, b8], by simp (disch := first | assumption | omega | (simp only [push_n, set_n]; done) | (simp only [push_n, set_n]; omega) | fail) only [go_sem, ↓reduceIte, Nat.reduceEqDiff, Nat.reduceAdd, Nat.reduceMul, Int.reduceToNat, Int.reduceAdd, Int.reduceTDiv, Nat.reduceLeDiff], rfl, x3, by omega, gb, by rw [← lnil] at o3; exact o3⟩
          clear b0 b1 b5 b6 b8 bm
          rintro t a4 h4 ⟨j, w, rfl, hj1, hj2, b0, b1, b5, b6, b8, b11, bm, x4, n4, g4, o4⟩
          have hb2 := Ck.bounds hcok2
          have ht : (tailsOf c2).length = if c2.kind = 2 then c2.many - 1 else 0 := by unfold tailsOf; rw [List.length_replicate]
          have done : j = (tailsOf c2).length + 1 → ∃ m', m' < ns.length - i ∧ ∃ (i' : Nat) (v2 : Value) (out2 : List Ck), m' = ns.length - i' ∧ i' ≤ ns.length ∧ out2.length ≤ 30 ∧ w = v2 ∧ Value.int .i64 ((i : Int) + 1) = Value.int .i64 (i' : Int) ∧ Ext h h4 ∧ OS h4 45 1 h.n v2 (out2.map Ck.word) ∧ madeM ns = madeAux out2 (ns.drop i') := fun hj => by
            have e3 : c2 :: List.replicate (j - 1) Ck.tail = c2 :: tailsOf c2 := by
              rw [hj, Nat.add_sub_cancel, ht]; rfl
            rw [e3] at o4
            refine ⟨_, Nat.sub_lt_sub_left hin (Nat.lt_succ_self i), i + 1, w, out ++ c2 :: tailsOf c2, rfl, by omega, ?_, rfl, rfl, x4, o4, hmade⟩
            rw [List.length_append, List.length_cons, ht]
            split
            · rename_i hk; have := hle hk; omega
            · omega
          by_cases hk2 : c2.kind = 2
          · rw [if_pos hk2] at ht
            by_cases hjm : j < c2.many
            · have hlt : (tailsOf c2).length + 1 - (j + 1) < (tailsOf c2).length + 1 - j := by omega
              have hj5 : 1 ≤ j + 1 := by omega
              have hj6 : j + 1 ≤ (tailsOf c2).length + 1 := by omega
              have hne4 : h1.n ≠ vb w := by
                intro e4
                have := o4.cells (by simp)
                rw [← e4, g4] at this
                injection this with _ h47 _
                exact absurd h47 (by decide)
              obtain ⟨w', h5, e5, o5, x5, n5, g5, vc5⟩ := OS.app_ext (h := h4.push (.cells [ub 3#64] 45 false)) (B := h4.n) (bytes := 8) (by repeat (first | assumption | exact Ext.refl _ | refine Ext.push ?_ | refine Ext.set ?_ (by omega) | refine Ext.trans ?_ (by assumption))) (o4.ext (by repeat (first | assumption | exact Ext.refl _ | refine Ext.push ?_ | refine Ext.set ?_ (by omega) | refine Ext.trans ?_ (by assumption)))) (get_push_eq rfl) rfl (by decide) (by simp; have := hle hk2; omega)
              simp only [push_n] at n5
              have n6 : h1.n < h5.n := by omega
              have g6 : h5.get h1.n = .cells c2.cells 47 false := by
                rw [g5 h1.n (by simp only [push_n]; omega) (fun _ => hne4)]
                simp (disch := first | assumption | omega | (simp only [push_n, set_n]; done) | (simp only [push_n, set_n]; omega) | fail) only [go_sem, ↓reduceIte, Nat.reduceEqDiff, Nat.reduceAdd, Nat.reduceMul, Int.reduceToNat, Int.reduceAdd, Int.reduceTDiv, Nat.reduceLeDiff, g4]
              simp (disch := first | assumption | omega | (simp only [push_n, set_n]; done) | (simp only [push_n, set_n]; omega) | fail) only [go_sem, ↓reduceIte, Nat.reduceEqDiff, Nat.reduceAdd, Nat.reduceMul, Int.reduceToNat, Int.reduceAdd, Int.reduceTDiv, Nat.reduceLeDiff, b0, b1, b5, b6, b8, b11, bm, g4, e5]
              refine ⟨(tailsOf c2).length + 1 - (j + 1), hlt, j + 1, w', rfl, hj5, hj6, rfl, rfl, x5, n6, g6, ?_⟩
              have e7 : out ++ c2 :: List.replicate (j + 1 - 1) Ck.tail = (out ++ c2 :: List.replicate (j - 1) Ck.tail) ++ [Ck.tail] := by
                rw [show j + 1 - 1 = (j - 1) + 1 by omega, List.replicate_succ']
                simp
              rw [e7, List.map_append]
              exact o5
            · simp (disch := first | assumption | omega | (simp only [push_n, set_n]; done) | (simp only [push_n, set_n]; omega) | fail) only [go_sem, ↓reduceIte, Nat.reduceEqDiff, Nat.reduceAdd, Nat.reduceMul, Int.reduceToNat, Int.reduceAdd, Int.reduceTDiv, Nat.reduceLeDiff, b0, b1, b5, b6, b8, b11, bm, g4]
              exact done (by omega)
          · rw [if_neg hk2] at ht
            simp (disch := first | assumption | omega | (simp only [push_n, set_n]; done) | (simp only [push_n, set_n]; omega) | fail) only [go_sem, ↓reduceIte, Nat.reduceEqDiff, Nat.reduceAdd, Nat.reduceMul, Int.reduceToNat, Int.reduceAdd, Int.reduceTDiv, Nat.reduceLeDiff, b0, b1, b5, b6, b8, b11, bm, g4]
            exact done (by omega)
        have hb := Ck.bounds hcok
        by_cases hk2 : c.kind = 2
        · have hm1 : 1 ≤ c.many := by
            obtain ⟨n', e'⟩ := Ck.kind_huge hk2
            rw [e'] at hcok ⊢
            exact hcok.1
          by_cases hover : 20 < out.length + c.many
          · have hf : fitC out.length c = .free := by unfold fitC; rw [if_pos ⟨hk2, hover⟩]
            simp (disch := first | assumption | omega | (simp only [push_n, set_n]; done) | (simp only [push_n, set_n]; omega) | fail) only [go_sem, ↓reduceIte, Nat.reduceEqDiff, Nat.reduceAdd, Nat.reduceMul, Int.reduceToNat, Int.reduceAdd, Int.reduceTDiv, Nat.reduceLeDiff, a0, a1, a5, a6, a8, am, lv2]
            exact rest2 .free _ trivial hf (by simp [Ck.kind]) (by simp (disch := first | assumption | omega | (simp only [push_n, set_n]; done) | (simp only [push_n, set_n]; omega) | fail) only [go_sem, ↓reduceIte, Nat.reduceEqDiff, Nat.reduceAdd, Nat.reduceMul, Int.reduceToNat, Int.reduceAdd, Int.reduceTDiv, Nat.reduceLeDiff, a0]) (by simp (disch := first | assumption | omega | (simp only [push_n, set_n]; done) | (simp only [push_n, set_n]; omega) | fail) only [go_sem, ↓reduceIte, Nat.reduceEqDiff, Nat.reduceAdd, Nat.reduceMul, Int.reduceToNat, Int.reduceAdd, Int.reduceTDiv, Nat.reduceLeDiff, a1]) (by simp (disch := first | assumption | omega | (simp only [push_n, set_n]; done) | (simp only [push_n, set_n]; omega) | fail) only [go_sem, ↓reduceIte, Nat.reduceEqDiff, Nat.reduceAdd, Nat.reduceMul, Int.reduceToNat, Int.reduceAdd, Int.reduceTDiv, Nat.reduceLeDiff, a5]) (by simp (disch := first | assumption | omega | (simp only [push_n, set_n]; done) | (simp only [push_n, set_n]; omega) | fail) only [go_sem, ↓reduceIte, Nat.reduceEqDiff, Nat.reduceAdd, Nat.reduceMul, Int.reduceToNat, Int.reduceAdd, Int.reduceTDiv, Nat.reduceLeDiff, a6]) (by simp (disch := first | assumption | omega | (simp only [push_n, set_n]; done) | (simp only [push_n, set_n]; omega) | fail) only [go_sem, ↓reduceIte, Nat.reduceEqDiff, Nat.reduceAdd, Nat.reduceMul, Int.reduceToNat, Int.reduceAdd, Int.reduceTDiv, Nat.reduceLeDiff, a8]) (by first | rfl | exact am)
          · have hf : fitC out.length c = c := by unfold fitC; rw [if_neg (by omega)]
            simp (disch := first | assumption | omega | (simp only [push_n, set_n]; done) | (simp only [push_n, set_n]; omega) | fail) only [go_sem, ↓reduceIte, Nat.reduceEqDiff, Nat.reduceAdd, Nat.reduceMul, Int.reduceToNat, Int.reduceAdd, Int.reduceTDiv, Nat.reduceLeDiff, a0, a1, a5, a6, a8, am, lv2]
            exact rest2 c _ hcok hf (by omega) (by simp (disch := first | assumption | omega | (simp only [push_n, set_n]; done) | (simp only [push_n, set_n]; omega) | fail) only [go_sem, ↓reduceIte, Nat.reduceEqDiff, Nat.reduceAdd, Nat.reduceMul, Int.reduceToNat, Int.reduceAdd, Int.reduceTDiv, Nat.reduceLeDiff, a0]) (by simp (disch := first | assumption | omega | (simp only [push_n, set_n]; done) | (simp only [push_n, set_n]; omega) | fail) only [go_sem, ↓reduceIte, Nat.reduceEqDiff, Nat.reduceAdd, Nat.reduceMul, Int.reduceToNat, Int.reduceAdd, Int.reduceTDiv, Nat.reduceLeDiff, a1]) (by simp (disch := first | assumption | omega | (simp only [push_n, set_n]; done) | (simp only [push_n, set_n]; omega) | fail) only [go_sem, ↓reduceIte, Nat.reduceEqDiff, Nat.reduceAdd, Nat.reduceMul, Int.reduceToNat, Int.reduceAdd, Int.reduceTDiv, Nat.reduceLeDiff, a5]) (by simp (disch := first | assumption | omega | (simp only [push_n, set_n]; done) | (simp only [push_n, set_n]; omega) | fail) only [go_sem, ↓reduceIte, Nat.reduceEqDiff, Nat.reduceAdd, Nat.reduceMul, Int.reduceToNat, Int.reduceAdd, Int.reduceTDiv, Nat.reduceLeDiff, a6]) (by simp (disch := first | assumption | omega | (simp only [push_n, set_n]; done) | (simp only [push_n, set_n]; omega) | fail) only [go_sem, ↓reduceIte, Nat.reduceEqDiff, Nat.reduceAdd, Nat.reduceMul, Int.reduceToNat, Int.reduceAdd, Int.reduceTDiv, Nat.reduceLeDiff, a8]) (by first | rfl | exact am)
        · have hf : fitC out.length c = c := by unfold fitC; rw [if_neg (by omega)]
          by_cases hm1 : 1 ≤ c.many
          · by_cases hover : 20 < out.length + c.many
            · simp (disch := first | assumption | omega | (simp only [push_n, set_n]; done) | (simp only [push_n, set_n]; omega) | fail) only [go_sem, ↓reduceIte, Nat.reduceEqDiff, Nat.reduceAdd, Nat.reduceMul, Int.reduceToNat, Int.reduceAdd, Int.reduceTDiv, Nat.reduceLeDiff, a0, a1, a5, a6, a8, am, lv2]
              exact rest2 c _ hcok hf (by omega) (by simp (disch := first | assumption | omega | (simp only [push_n, set_n]; done) | (simp only [push_n, set_n]; omega) | fail) only [go_sem, ↓reduceIte, Nat.reduceEqDiff, Nat.reduceAdd, Nat.reduceMul, Int.reduceToNat, Int.reduceAdd, Int.reduceTDiv, Nat.reduceLeDiff, a0]) (by simp (disch := first | assumption | omega | (simp only [push_n, set_n]; done) | (simp only [push_n, set_n]; omega) | fail) only [go_sem, ↓reduceIte, Nat.reduceEqDiff, Nat.reduceAdd, Nat.reduceMul, Int.reduceToNat, Int.reduceAdd, Int.reduceTDiv, Nat.reduceLeDiff, a1]) (by simp (disch := first | assumption | omega | (simp only [push_n, set_n]; done) | (simp only [push_n, set_n]; omega) | fail) only [go_sem, ↓reduceIte, Nat.reduceEqDiff, Nat.reduceAdd, Nat.reduceMul, Int.reduceToNat, Int.reduceAdd, Int.reduceTDiv, Nat.reduceLeDiff, a5]) (by simp (disch := first | assumption | omega | (simp only [push_n, set_n]; done) | (simp only [push_n, set_n]; omega) | fail) only [go_sem, ↓reduceIte, Nat.reduceEqDiff, Nat.reduceAdd, Nat.reduceMul, Int.reduceToNat, Int.reduceAdd, Int.reduceTDiv, Nat.reduceLeDiff, a6]) (by simp (disch := first | assumption | omega | (simp only [push_n, set_n]; done) | (simp only [push_n, set_n]; omega) | fail) only [go_sem, ↓reduceIte, Nat.reduceEqDiff, Nat.reduceAdd, Nat.reduceMul, Int.reduceToNat, Int.reduceAdd, Int.reduceTDiv, Nat.reduceLeDiff, a8]) (by first | rfl | exact am)
            · simp (disch := first | assumption | omega | (simp only [push_n, set_n]; done) | (simp only [push_n, set_n]; omega) | fail) only [go_sem, ↓reduceIte, Nat.reduceEqDiff, Nat.reduceAdd, Nat.reduceMul, Int.reduceToNat, Int.reduceAdd, Int.reduceTDiv, Nat.reduceLeDiff, a0, a1, a5, a6, a8, am, lv2]
              exact rest2 c _ hcok hf (by omega) (by simp (disch := first | assumption | omega | (simp only [push_n, set_n]; done) | (simp only [push_n, set_n]; omega) | fail) only [go_sem, ↓reduceIte, Nat.reduceEqDiff, Nat.reduceAdd, Nat.reduceMul, Int.reduceToNat, Int.reduceAdd, Int.reduceTDiv, Nat.reduceLeDiff, a0]) (by simp (disch := first | assumption | omega | (simp only [push_n, set_n]; done) | (simp only [push_n, set_n]; omega) | fail) only [go_sem, ↓reduceIte, Nat.reduceEqDiff, Nat.reduceAdd, Nat.reduceMul, Int.reduceToNat, Int.reduceAdd, Int.reduceTDiv, Nat.reduceLeDiff, a1]) (by simp (disch := first | assumption | omega | (simp only [push_n, set_n]; done) | (simp only [push_n, set_n]; omega) | fail) only [go_sem, ↓reduceIte, Nat.reduceEqDiff, Nat.reduceAdd, Nat.reduceMul, Int.reduceToNat, Int.reduceAdd, Int.reduceTDiv, Nat.reduceLeDiff, a5]) (by simp (disch := first | assumption | omega | (simp only [push_n, set_n]; done) | (simp only [push_n, set_n]; omega) | fail) only [go_sem, ↓reduceIte, Nat.reduceEqDiff, Nat.reduceAdd, Nat.reduceMul, Int.reduceToNat, Int.reduceAdd, Int.reduceTDiv, Nat.reduceLeDiff, a6]) (by simp (disch := first | assumption | omega | (simp only [push_n, set_n]; done) | (simp only [push_n, set_n]; omega) | fail) only [go_sem, ↓reduceIte, Nat.reduceEqDiff, Nat.reduceAdd, Nat.reduceMul, Int.reduceToNat, Int.reduceAdd, Int.reduceTDiv, Nat.reduceLeDiff, a8]) (by first | rfl | exact am)
          · simp (disch := first | assumption | omega | (simp only [push_n, set_n]; done) | (simp only [push_n, set_n]; omega) | fail) only [go_sem, ↓reduceIte, Nat.reduceEqDiff, Nat.reduceAdd, Nat.reduceMul, Int.reduceToNat, Int.reduceAdd, Int.reduceTDiv, Nat.reduceLeDiff, a0, a1, a5, a6, a8, am, lv2]
            exact rest2 c _ hcok hf (by omega) (by simp (disch := first | assumption | omega | (simp only [push_n, set_n]; done) | (simp only [push_n, set_n]; omega) | fail) only [go_sem, ↓reduceIte, Nat.reduceEqDiff, Nat.reduceAdd, Nat.reduceMul, Int.reduceToNat, Int.reduceAdd, Int.reduceTDiv, Nat.reduceLeDiff, a0]) (by simp (disch := first | assumption | omega | (simp only [push_n, set_n]; done) | (simp only [push_n, set_n]; omega) | fail) only [go_sem, ↓reduceIte, Nat.reduceEqDiff, Nat.reduceAdd, Nat.reduceMul, Int.reduceToNat, Int.reduceAdd, Int.reduceTDiv, Nat.reduceLeDiff, a1]) (by simp (disch := first | assumption | omega | (simp only [push_n, set_n]; done) | (simp only [push_n, set_n]; omega) | fail) only [go_sem, ↓reduceIte, Nat.reduceEqDiff, Nat.reduceAdd, Nat.reduceMul, Int.reduceToNat, Int.reduceAdd, Int.reduceTDiv, Nat.reduceLeDiff, a5]) (by simp (disch := first | assumption | omega | (simp only [push_n, set_n]; done) | (simp only [push_n, set_n]; omega) | fail) only [go_sem, ↓reduceIte, Nat.reduceEqDiff, Nat.reduceAdd, Nat.reduceMul, Int.reduceToNat, Int.reduceAdd, Int.reduceTDiv, Nat.reduceLeDiff, a6]) (by simp (disch := first | assumption | omega | (simp only [push_n, set_n]; done) | (simp only [push_n, set_n]; omega) | fail) only [go_sem, ↓reduceIte, Nat.reduceEqDiff, Nat.reduceAdd, Nat.reduceMul, Int.reduceToNat, Int.reduceAdd, Int.reduceTDiv, Nat.reduceLeDiff, a8]) (by first | rfl | exact am)
      have hne : ¬ (1#64 <<< manyOf (n / 8 % 3)) = 0#64 := by
        have h4 := many_pos (n / 8 % 3) (by omega)
        intro e0
        have h5 := congrArg BitVec.toNat e0
        rw [BitVec.toNat_shiftLeft, Nat.shiftLeft_eq, show (1#64).toNat = 1 from rfl, Nat.one_mul] at h5
        have h6 : 2 ^ manyOf (n / 8 % 3) ≤ 2 ^ 8 := Nat.pow_le_pow_right (by decide) h4.2
        rw [Nat.mod_eq_of_lt (by omega)] at h5
        have := Nat.two_pow_pos (manyOf (n / 8 % 3))
        simp at h5
      by_cases r1 : n % 6 = 1
      · have em : madeC n = .run (n / 8 % 3) (madeB n) := by unfold madeC; rw [if_pos (.inl r1)]
        simp (disch := first | assumption | omega | (simp only [push_n, set_n]; done) | (simp only [push_n, set_n]; omega) | fail) only [go_sem, ↓reduceIte, Nat.reduceEqDiff, Nat.reduceAdd, Nat.reduceMul, Int.reduceToNat, Int.reduceAdd, Int.reduceTDiv, Nat.reduceLeDiff, a0, a1, a5, a6, am, e6, e8, e32, e83]
        refine f20_spec (by omega) ?_
        simp (disch := first | assumption | omega | (simp only [push_n, set_n]; done) | (simp only [push_n, set_n]; omega) | fail) only [go_sem, ↓reduceIte, Nat.reduceEqDiff, Nat.reduceAdd, Nat.reduceMul, Int.reduceToNat, Int.reduceAdd, Int.reduceTDiv, Nat.reduceLeDiff, a0, a1, a5, a6, am]
        exact rest (.run (n / 8 % 3) (madeB n)) _ (em ▸ madeC_ok n) em (by simp (disch := first | assumption | omega | (simp only [push_n, set_n]; done) | (simp only [push_n, set_n]; omega) | fail) only [go_sem, ↓reduceIte, Nat.reduceEqDiff, Nat.reduceAdd, Nat.reduceMul, Int.reduceToNat, Int.reduceAdd, Int.reduceTDiv, Nat.reduceLeDiff, a0]) (by simp (disch := first | assumption | omega | (simp only [push_n, set_n]; done) | (simp only [push_n, set_n]; omega) | fail) only [go_sem, ↓reduceIte, Nat.reduceEqDiff, Nat.reduceAdd, Nat.reduceMul, Int.reduceToNat, Int.reduceAdd, Int.reduceTDiv, Nat.reduceLeDiff, a1]) (by simp (disch := first | assumption | omega | (simp only [push_n, set_n]; done) | (simp only [push_n, set_n]; omega) | fail) only [go_sem, ↓reduceIte, Nat.reduceEqDiff, Nat.reduceAdd, Nat.reduceMul, Int.reduceToNat, Int.reduceAdd, Int.reduceTDiv, Nat.reduceLeDiff, a5]) (by simp (disch := first | assumption | omega | (simp only [push_n, set_n]; done) | (simp only [push_n, set_n]; omega) | fail) only [go_sem, ↓reduceIte, Nat.reduceEqDiff, Nat.reduceAdd, Nat.reduceMul, Int.reduceToNat, Int.reduceAdd, Int.reduceTDiv, Nat.reduceLeDiff, a6]) (by simp (disch := first | assumption | omega | (simp only [push_n, set_n]; done) | (simp only [push_n, set_n]; omega) | fail) only [go_sem, ↓reduceIte, Nat.reduceEqDiff, Nat.reduceAdd, Nat.reduceMul, Int.reduceToNat, Int.reduceAdd, Int.reduceTDiv, Nat.reduceLeDiff]) (by first | rfl | exact am)
      by_cases r2 : n % 6 = 2
      · have em : madeC n = .run (n / 8 % 3) (madeB n) := by unfold madeC; rw [if_pos (.inr r2)]
        simp (disch := first | assumption | omega | (simp only [push_n, set_n]; done) | (simp only [push_n, set_n]; omega) | fail) only [go_sem, ↓reduceIte, Nat.reduceEqDiff, Nat.reduceAdd, Nat.reduceMul, Int.reduceToNat, Int.reduceAdd, Int.reduceTDiv, Nat.reduceLeDiff, a0, a1, a5, a6, am, e6, e8, e32, e83]
        refine f20_spec (by omega) ?_
        simp (disch := first | assumption | omega | (simp only [push_n, set_n]; done) | (simp only [push_n, set_n]; omega) | fail) only [go_sem, ↓reduceIte, Nat.reduceEqDiff, Nat.reduceAdd, Nat.reduceMul, Int.reduceToNat, Int.reduceAdd, Int.reduceTDiv, Nat.reduceLeDiff, a0, a1, a5, a6, am]
        exact rest (.run (n / 8 % 3) (madeB n)) _ (em ▸ madeC_ok n) em (by simp (disch := first | assumption | omega | (simp only [push_n, set_n]; done) | (simp only [push_n, set_n]; omega) | fail) only [go_sem, ↓reduceIte, Nat.reduceEqDiff, Nat.reduceAdd, Nat.reduceMul, Int.reduceToNat, Int.reduceAdd, Int.reduceTDiv, Nat.reduceLeDiff, a0]) (by simp (disch := first | assumption | omega | (simp only [push_n, set_n]; done) | (simp only [push_n, set_n]; omega) | fail) only [go_sem, ↓reduceIte, Nat.reduceEqDiff, Nat.reduceAdd, Nat.reduceMul, Int.reduceToNat, Int.reduceAdd, Int.reduceTDiv, Nat.reduceLeDiff, a1]) (by simp (disch := first | assumption | omega | (simp only [push_n, set_n]; done) | (simp only [push_n, set_n]; omega) | fail) only [go_sem, ↓reduceIte, Nat.reduceEqDiff, Nat.reduceAdd, Nat.reduceMul, Int.reduceToNat, Int.reduceAdd, Int.reduceTDiv, Nat.reduceLeDiff, a5]) (by simp (disch := first | assumption | omega | (simp only [push_n, set_n]; done) | (simp only [push_n, set_n]; omega) | fail) only [go_sem, ↓reduceIte, Nat.reduceEqDiff, Nat.reduceAdd, Nat.reduceMul, Int.reduceToNat, Int.reduceAdd, Int.reduceTDiv, Nat.reduceLeDiff, a6]) (by simp (disch := first | assumption | omega | (simp only [push_n, set_n]; done) | (simp only [push_n, set_n]; omega) | fail) only [go_sem, ↓reduceIte, Nat.reduceEqDiff, Nat.reduceAdd, Nat.reduceMul, Int.reduceToNat, Int.reduceAdd, Int.reduceTDiv, Nat.reduceLeDiff]) (by first | rfl | exact am)
      have r12 : ¬ (n % 6 = 1 ∨ n % 6 = 2) := by omega
      by_cases r3 : n % 6 = 3
      · have em : madeC n = .huge (1 + n / 8 % 4) := by unfold madeC; rw [if_neg r12, if_pos r3]
        simp (disch := first | assumption | omega | (simp only [push_n, set_n]; done) | (simp only [push_n, set_n]; omega) | fail) only [go_sem, ↓reduceIte, Nat.reduceEqDiff, Nat.reduceAdd, Nat.reduceMul, Int.reduceToNat, Int.reduceAdd, Int.reduceTDiv, Nat.reduceLeDiff, a0, a1, a5, a6, am, e6, e8, e32, e84]
        exact rest (.huge (1 + n / 8 % 4)) _ (em ▸ madeC_ok n) em (by simp (disch := first | assumption | omega | (simp only [push_n, set_n]; done) | (simp only [push_n, set_n]; omega) | fail) only [go_sem, ↓reduceIte, Nat.reduceEqDiff, Nat.reduceAdd, Nat.reduceMul, Int.reduceToNat, Int.reduceAdd, Int.reduceTDiv, Nat.reduceLeDiff, a0]) (by simp (disch := first | assumption | omega | (simp only [push_n, set_n]; done) | (simp only [push_n, set_n]; omega) | fail) only [go_sem, ↓reduceIte, Nat.reduceEqDiff, Nat.reduceAdd, Nat.reduceMul, Int.reduceToNat, Int.reduceAdd, Int.reduceTDiv, Nat.reduceLeDiff, a1]) (by simp (disch := first | assumption | omega | (simp only [push_n, set_n]; done) | (simp only [push_n, set_n]; omega) | fail) only [go_sem, ↓reduceIte, Nat.reduceEqDiff, Nat.reduceAdd, Nat.reduceMul, Int.reduceToNat, Int.reduceAdd, Int.reduceTDiv, Nat.reduceLeDiff, a5]) (by simp (disch := first | assumption | omega | (simp only [push_n, set_n]; done) | (simp only [push_n, set_n]; omega) | fail) only [go_sem, ↓reduceIte, Nat.reduceEqDiff, Nat.reduceAdd, Nat.reduceMul, Int.reduceToNat, Int.reduceAdd, Int.reduceTDiv, Nat.reduceLeDiff, a6]) (by simp (disch := first | assumption | omega | (simp only [push_n, set_n]; done) | (simp only [push_n, set_n]; omega) | fail) only [go_sem, ↓reduceIte, Nat.reduceEqDiff, Nat.reduceAdd, Nat.reduceMul, Int.reduceToNat, Int.reduceAdd, Int.reduceTDiv, Nat.reduceLeDiff]) (by first | rfl | exact am)
      by_cases r4 : n % 6 = 4
      · have em : madeC n = .run (n / 8 % 3) 0#64 := by unfold madeC; rw [if_neg r12, if_neg r3, if_pos r4]
        simp (disch := first | assumption | omega | (simp only [push_n, set_n]; done) | (simp only [push_n, set_n]; omega) | fail) only [go_sem, ↓reduceIte, Nat.reduceEqDiff, Nat.reduceAdd, Nat.reduceMul, Int.reduceToNat, Int.reduceAdd, Int.reduceTDiv, Nat.reduceLeDiff, a0, a1, a5, a6, am, e6, e8, e32, e83]
        exact rest (.run (n / 8 % 3) 0#64) _ (em ▸ madeC_ok n) em (by simp (disch := first | assumption | omega | (simp only [push_n, set_n]; done) | (simp only [push_n, set_n]; omega) | fail) only [go_sem, ↓reduceIte, Nat.reduceEqDiff, Nat.reduceAdd, Nat.reduceMul, Int.reduceToNat, Int.reduceAdd, Int.reduceTDiv, Nat.reduceLeDiff, a0]) (by simp (disch := first | assumption | omega | (simp only [push_n, set_n]; done) | (simp only [push_n, set_n]; omega) | fail) only [go_sem, ↓reduceIte, Nat.reduceEqDiff, Nat.reduceAdd, Nat.reduceMul, Int.reduceToNat, Int.reduceAdd, Int.reduceTDiv, Nat.reduceLeDiff, a1]) (by simp (disch := first | assumption | omega | (simp only [push_n, set_n]; done) | (simp only [push_n, set_n]; omega) | fail) only [go_sem, ↓reduceIte, Nat.reduceEqDiff, Nat.reduceAdd, Nat.reduceMul, Int.reduceToNat, Int.reduceAdd, Int.reduceTDiv, Nat.reduceLeDiff, a5]) (by simp (disch := first | assumption | omega | (simp only [push_n, set_n]; done) | (simp only [push_n, set_n]; omega) | fail) only [go_sem, ↓reduceIte, Nat.reduceEqDiff, Nat.reduceAdd, Nat.reduceMul, Int.reduceToNat, Int.reduceAdd, Int.reduceTDiv, Nat.reduceLeDiff, a6]) (by simp (disch := first | assumption | omega | (simp only [push_n, set_n]; done) | (simp only [push_n, set_n]; omega) | fail) only [go_sem, ↓reduceIte, Nat.reduceEqDiff, Nat.reduceAdd, Nat.reduceMul, Int.reduceToNat, Int.reduceAdd, Int.reduceTDiv, Nat.reduceLeDiff]) (by first | rfl | exact am)
      by_cases r5 : n % 6 = 5
      · have em : madeC n = .log (n / 8 % 3) (n / 32 % 8) := by unfold madeC; rw [if_neg r12, if_neg r3, if_neg r4, if_pos r5]
        simp (disch := first | assumption | omega | (simp only [push_n, set_n]; done) | (simp only [push_n, set_n]; omega) | fail) only [go_sem, ↓reduceIte, Nat.reduceEqDiff, Nat.reduceAdd, Nat.reduceMul, Int.reduceToNat, Int.reduceAdd, Int.reduceTDiv, Nat.reduceLeDiff, a0, a1, a5, a6, am, e6, e8, e32, e83, e328]
        exact rest (.log (n / 8 % 3) (n / 32 % 8)) _ (em ▸ madeC_ok n) em (by simp (disch := first | assumption | omega | (simp only [push_n, set_n]; done) | (simp only [push_n, set_n]; omega) | fail) only [go_sem, ↓reduceIte, Nat.reduceEqDiff, Nat.reduceAdd, Nat.reduceMul, Int.reduceToNat, Int.reduceAdd, Int.reduceTDiv, Nat.reduceLeDiff, a0]) (by simp (disch := first | assumption | omega | (simp only [push_n, set_n]; done) | (simp only [push_n, set_n]; omega) | fail) only [go_sem, ↓reduceIte, Nat.reduceEqDiff, Nat.reduceAdd, Nat.reduceMul, Int.reduceToNat, Int.reduceAdd, Int.reduceTDiv, Nat.reduceLeDiff, a1]) (by simp (disch := first | assumption | omega | (simp only [push_n, set_n]; done) | (simp only [push_n, set_n]; omega) | fail) only [go_sem, ↓reduceIte, Nat.reduceEqDiff, Nat.reduceAdd, Nat.reduceMul, Int.reduceToNat, Int.reduceAdd, Int.reduceTDiv, Nat.reduceLeDiff, a5]) (by simp (disch := first | assumption | omega | (simp only [push_n, set_n]; done) | (simp only [push_n, set_n]; omega) | fail) only [go_sem, ↓reduceIte, Nat.reduceEqDiff, Nat.reduceAdd, Nat.reduceMul, Int.reduceToNat, Int.reduceAdd, Int.reduceTDiv, Nat.reduceLeDiff, a6]) (by simp (disch := first | assumption | omega | (simp only [push_n, set_n]; done) | (simp only [push_n, set_n]; omega) | fail) only [go_sem, ↓reduceIte, Nat.reduceEqDiff, Nat.reduceAdd, Nat.reduceMul, Int.reduceToNat, Int.reduceAdd, Int.reduceTDiv, Nat.reduceLeDiff]) (by first | rfl | exact am)
      have em : madeC n = .free := by unfold madeC; rw [if_neg r12, if_neg r3, if_neg r4, if_neg r5]
      simp (disch := first | assumption | omega | (simp only [push_n, set_n]; done) | (simp only [push_n, set_n]; omega) | fail) only [go_sem, ↓reduceIte, Nat.reduceEqDiff, Nat.reduceAdd, Nat.reduceMul, Int.reduceToNat, Int.reduceAdd, Int.reduceTDiv, Nat.reduceLeDiff, a0, a1, a5, a6, am, e6, e8, e32, e83]
      exact rest .free _ trivial em (by simp (disch := first | assumption | omega | (simp only [push_n, set_n]; done) | (simp only [push_n, set_n]; omega) | fail) only [go_sem, ↓reduceIte, Nat.reduceEqDiff, Nat.reduceAdd, Nat.reduceMul, Int.reduceToNat, Int.reduceAdd, Int.reduceTDiv, Nat.reduceLeDiff, a0]) (by simp (disch := first | assumption | omega | (simp only [push_n, set_n]; done) | (simp only [push_n, set_n]; omega) | fail) only [go_sem, ↓reduceIte, Nat.reduceEqDiff, Nat.reduceAdd, Nat.reduceMul, Int.reduceToNat, Int.reduceAdd, Int.reduceTDiv, Nat.reduceLeDiff, a1]) (by simp (disch := first | assumption | omega | (simp only [push_n, set_n]; done) | (simp only [push_n, set_n]; omega) | fail) only [go_sem, ↓reduceIte, Nat.reduceEqDiff, Nat.reduceAdd, Nat.reduceMul, Int.reduceToNat, Int.reduceAdd, Int.reduceTDiv, Nat.reduceLeDiff, a5]) (by simp (disch := first | assumption | omega | (simp only [push_n, set_n]; done) | (simp only [push_n, set_n]; omega) | fail) only [go_sem, ↓reduceIte, Nat.reduceEqDiff, Nat.reduceAdd, Nat.reduceMul, Int.reduceToNat, Int.reduceAdd, Int.reduceTDiv, Nat.reduceLeDiff, a6]) (by simp (disch := first | assumption | omega | (simp only [push_n, set_n]; done) | (simp only [push_n, set_n]; omega) | fail) only [go_sem, ↓reduceIte, Nat.reduceEqDiff, Nat.reduceAdd, Nat.reduceMul, Int.reduceToNat, Int.reduceAdd, Int.reduceTDiv, Nat.reduceLeDiff]) (by first | rfl | exact am)
    · rw [if_neg h20] at hmade
      simp (disch := first | assumption | omega | (simp only [push_n, set_n]; done) | (simp only [push_n, set_n]; omega) | fail) only [go_sem, ↓reduceIte, Nat.reduceEqDiff, Nat.reduceAdd, Nat.reduceMul, Int.reduceToNat, Int.reduceAdd, Int.reduceTDiv, Nat.reduceLeDiff, a0, a1, a5, a6, am, lv]
      rw [hmade] at q
      exact q _ _ hx ho
  · obtain rfl : i = ns.length := by omega
    simp (disch := first | assumption | omega | (simp only [push_n, set_n]; done) | (simp only [push_n, set_n]; omega) | fail) only [go_sem, ↓reduceIte, Nat.reduceEqDiff, Nat.reduceAdd, Nat.reduceMul, Int.reduceToNat, Int.reduceAdd, Int.reduceTDiv, Nat.reduceLeDiff, a0, a1, a5, a6, am, lv]
    rw [hmade, List.drop_length, show madeAux out [] = out by cases out <;> rfl] at q
    exact q _ _ hx ho
end Go.Am.YtdcppkhobfbpeaaDoor
