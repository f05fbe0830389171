/-
  The document's index: dropping, keeping, freeing.
-/
import Derived.Test.YtdcppkhobfbpeaaDoorD37
set_option linter.unusedVariables false
set_option linter.unusedSimpArgs false
namespace Go.Am.YtdcppkhobfbpeaaDoor
open Go Go.Am Go.Proofs

def One.turn (o : One) (m next : Nat) : One := match o.c with
  | .run k b => if next = 0 then ⟨.run k (b &&& ~~~bitB m), o.t &&& ~~~bitB m⟩ else ⟨.run k (b ||| bitB m), o.t &&& ~~~bitB m⟩
  | _ => o
/-- A block, or chunks, that are one thing, are another. -/
def turnM (l : List One) (p : Pl) (is next : Nat) : Option (List One) := match atM l p with
  | some (i, _) => match l[i]? with
    | some o => if p.cls = -1 then (if (if o.tkn = true then 2 else 1) = is then some (if next = 0 then fillM l i p.many.toNat ⟨.free, 0#64⟩ else l.set i ⟨o.c, 0#64⟩) else none)
      else (if o.blk p.index.toNat = is then some (l.set i (o.turn p.index.toNat next)) else none)
    | none => none
  | none => none
theorem ref_turn {k : Nat} {b t : BitVec 64} {m next : Nat} (hm : m < 8) (hn : next ≤ 1) : setAt (One.ref ⟨.run k b, t⟩) (5 + m) [.int .i64 next] = One.ref (One.turn ⟨.run k b, t⟩ m next) := by
  unfold One.turn
  simp only
  have h : next = 0 ∨ next = 1 := by omega
  rcases h with rfl | rfl
  · rw [if_pos rfl]
    refine ref_blk_set (o' := ⟨.run k (b &&& ~~~bitB m), t &&& ~~~bitB m⟩) (v := 0) hm rfl rfl rfl rfl rfl (fun j hj => ?_) (by rw [blk_run, and_bit_eq, and_bit_eq]; rfl)
    rcases Nat.lt_or_ge j 64 with h6 | h6
    · rw [blk_run, blk_run, and_bit_get hj h6, and_bit_get hj h6]
    · rw [blk_run, blk_run, BitVec.getLsbD_of_ge _ _ h6, BitVec.getLsbD_of_ge _ _ h6, BitVec.getLsbD_of_ge _ _ h6, BitVec.getLsbD_of_ge _ _ h6]
  · rw [if_neg (by decide)]
    refine ref_blk_set (o' := ⟨.run k (b ||| bitB m), t &&& ~~~bitB m⟩) (v := 1) hm rfl rfl rfl rfl rfl (fun j hj => ?_) (by rw [blk_run, or_bit_eq (by omega)]; rfl)
    rcases Nat.lt_or_ge j 64 with h6 | h6
    · rw [blk_run, blk_run, or_bit_get hj, and_bit_get hj h6]
    · rw [blk_run, blk_run, BitVec.getLsbD_of_ge _ _ h6, BitVec.getLsbD_of_ge _ _ h6, BitVec.getLsbD_of_ge _ _ h6, BitVec.getLsbD_of_ge _ _ h6]

set_option maxHeartbeats 4000000 in
theorem f56_spec {h : Heap} {Q : Value → Heap → Prop} {yb lb is next : Nat} {l : List One} {p : Pl} (hi : YX h yb lb l) (ht : ∀ o ∈ l, Tidy o) (hw : Wf l) (hn : l.length ≤ 1000) (h12 : is = 1 ∨ is = 2) (h01 : next = 0 ∨ next = 1)
    (q1 : ∀ l' h', turnM l p is next = some l' → Upd h h' lb → YX h' yb lb l' → Q (.bool true) h')
    (q0 : ∀ h', turnM l p is next = none → Ext h h' → Q (.bool false) h') : WC T (.func (.func 56) #[] #[]) [.pointer (some ⟨yb, 0, none⟩), p.val, .int .i64 is, .int .i64 next] h Q := by
  refine WC_fn T56 rfl ?_
  obtain ⟨chunk, index, cls, many, fresh⟩ := p
  have yn := hi.yn
  have ln := hi.ln
  have ly := hi.ne
  have iy := hi.y
  by_cases c1 : 0 ≤ chunk
  · obtain ⟨i, rfl⟩ : ∃ i : Nat, chunk = i := ⟨chunk.toNat, by omega⟩
    by_cases c2 : i < l.length
    · obtain ⟨o, ho⟩ : ∃ o, l[i]? = some o := ⟨_, List.getElem?_eq_getElem c2⟩
      have hto := ht o (List.mem_of_getElem? ho)
      have hne : l ≠ [] := by intro e; subst e; simp at c2
      have il := hi.l hne
      have hcb := Ck.bounds hto.ok
      have p0 := ref_part ho 0 14 (by omega)
      rw [Nat.add_zero, ref_all] at p0
      by_cases c3 : cls = -1
      · subst c3
        by_cases k1 : o.c.kind = 2
        · obtain ⟨n, ec⟩ := Ck.kind_huge k1
          obtain ⟨c, t⟩ := o
          simp only at ec
          subst ec
          have hfit := hw.fits i _ ho rfl
          have hn1 : 1 ≤ n ∧ n ≤ 8191 := ⟨hto.1, hto.2.1⟩
          by_cases k2 : (n : Int) = many
          · subst k2
            by_cases k3 : index = 0
            · subst k3
              have hat : atM l ⟨i, 0, -1, n, fresh⟩ = some (i, 1#64) := atM_huge ho
              have hz : ∀ l2 : List One, (if next = 0 then fillM l i (n : Int).toNat ⟨.free, 0#64⟩ else l.set i ⟨.huge n, 0#64⟩) = l2 → (if One.tkn ⟨.huge n, t⟩ = true then 2 else 1) = is → turnM l ⟨i, 0, -1, n, fresh⟩ is next = some l2 := fun l2 h1 h2 => by
                unfold turnM
                rw [hat]
                simp only [ho]
                rw [if_pos trivial, if_pos h2, h1]
              have hx : ¬ (if One.tkn ⟨.huge n, t⟩ = true then 2 else 1) = is → turnM l ⟨i, 0, -1, n, fresh⟩ is next = none := fun h2 => by
                unfold turnM
                rw [hat]
                simp only [ho]
                rw [if_pos trivial, if_neg h2]
              cases htk : One.tkn ⟨.huge n, t⟩ with
              | true =>
                rcases h12 with rfl | rfl
                · skip
                  simp (disch := first | assumption | omega | (simp only [push_n, set_n]; done) | (simp only [push_n, set_n]; omega) | fail) only [go_sem, ↓reduceIte, Nat.reduceEqDiff, Nat.reduceAdd, Nat.reduceMul, Int.reduceToNat, Int.reduceAdd, Int.reduceTDiv, Nat.reduceLeDiff, ir56, Pl.cells, iy, il, p0, ref_one, ref_put, One.ref, Ck.kind, Ck.cls, Ck.lane, Ck.many, htk]
                  exact q0 _ (hx (by rw [htk]; decide)) (by repeat (first | assumption | exact Ext.refl _ | refine Ext.push ?_ | refine Ext.set ?_ (by omega) | refine Ext.trans ?_ (by assumption)))
                · skip
                  simp (disch := first | assumption | omega | (simp only [push_n, set_n]; done) | (simp only [push_n, set_n]; omega) | fail) only [go_sem, ↓reduceIte, Nat.reduceEqDiff, Nat.reduceAdd, Nat.reduceMul, Int.reduceToNat, Int.reduceAdd, Int.reduceTDiv, Nat.reduceLeDiff, ir56, Pl.cells, iy, il, p0, ref_one, ref_put, One.ref, Ck.kind, Ck.cls, Ck.lane, Ck.many, htk]
                  rcases h01 with rfl | rfl
                  · refine WE_loop (fun m a h' => ∃ k : Nat, m = n - k ∧ k ≤ n ∧ a.get 0 = .pointer (some ⟨yb, 0, none⟩) ∧ a.get 3 = .int .i64 0 ∧ a.get 5 = .pointer (some ⟨h.n, 0, none⟩) ∧ a.get 11 = .int .i64 k ∧ a.marks = [] ∧ h'.n = h.n + 2 ∧ (∀ x, x < h.n → x ≠ lb → h'.get x = h.get x) ∧ h'.get h.n = .cells [.int .i64 i, .int .i64 0, .int .i64 (-1), .int .i64 n, .bool fresh] 30 false ∧ h'.get lb = .cells ((fillM l i k ⟨.free, 0#64⟩).map One.ref).flatten 90 false) ?_ (m := n) ⟨0, by omega, by omega, by simp (disch := first | assumption | omega | (simp only [push_n, set_n]; done) | (simp only [push_n, set_n]; omega) | fail) only [go_sem, ↓reduceIte, Nat.reduceEqDiff, Nat.reduceAdd, Nat.reduceMul, Int.reduceToNat, Int.reduceAdd, Int.reduceTDiv, Nat.reduceLeDiff], by simp (disch := first | assumption | omega | (simp only [push_n, set_n]; done) | (simp only [push_n, set_n]; omega) | fail) only [go_sem, ↓reduceIte, Nat.reduceEqDiff, Nat.reduceAdd, Nat.reduceMul, Int.reduceToNat, Int.reduceAdd, Int.reduceTDiv, Nat.reduceLeDiff], by simp (disch := first | assumption | omega | (simp only [push_n, set_n]; done) | (simp only [push_n, set_n]; omega) | fail) only [go_sem, ↓reduceIte, Nat.reduceEqDiff, Nat.reduceAdd, Nat.reduceMul, Int.reduceToNat, Int.reduceAdd, Int.reduceTDiv, Nat.reduceLeDiff], by simp (disch := first | assumption | omega | (simp only [push_n, set_n]; done) | (simp only [push_n, set_n]; omega) | fail) only [go_sem, ↓reduceIte, Nat.reduceEqDiff, Nat.reduceAdd, Nat.reduceMul, Int.reduceToNat, Int.reduceAdd, Int.reduceTDiv, Nat.reduceLeDiff], rfl, by simp (disch := first | assumption | omega | (simp only [push_n, set_n]; done) | (simp only [push_n, set_n]; omega) | fail) only [go_sem, ↓reduceIte, Nat.reduceEqDiff, Nat.reduceAdd, Nat.reduceMul, Int.reduceToNat, Int.reduceAdd, Int.reduceTDiv, Nat.reduceLeDiff], fun x hx hxl => by simp (disch := first | assumption | omega | (simp only [push_n, set_n]; done) | (simp only [push_n, set_n]; omega) | fail) only [go_sem, ↓reduceIte, Nat.reduceEqDiff, Nat.reduceAdd, Nat.reduceMul, Int.reduceToNat, Int.reduceAdd, Int.reduceTDiv, Nat.reduceLeDiff], by simp (disch := first | assumption | omega | (simp only [push_n, set_n]; done) | (simp only [push_n, set_n]; omega) | fail) only [go_sem, ↓reduceIte, Nat.reduceEqDiff, Nat.reduceAdd, Nat.reduceMul, Int.reduceToNat, Int.reduceAdd, Int.reduceTDiv, Nat.reduceLeDiff], by simp (disch := first | assumption | omega | (simp only [push_n, set_n]; done) | (simp only [push_n, set_n]; omega) | fail) only [go_sem, ↓reduceIte, Nat.reduceEqDiff, Nat.reduceAdd, Nat.reduceMul, Int.reduceToNat, Int.reduceAdd, Int.reduceTDiv, Nat.reduceLeDiff, il]; rfl⟩
                    rintro m a h3 ⟨k, rfl, hk, a0, a3, a5, a11, am, n3, g3, gp3, gl3⟩
                    have iy3 := (g3 yb yn (Ne.symm ly)).trans iy
                    by_cases hkn : k < n
                    · have gs : setAt ((fillM l i k ⟨.free, 0#64⟩).map One.ref).flatten ((i + k) * 14) [.int .i64 0, .int .i64 0, .int .i64 0, .int .i64 0, ub 0#64, .int .i64 0, .int .i64 0, .int .i64 0, .int .i64 0, .int .i64 0, .int .i64 0, .int .i64 0, .int .i64 0, .bool false] = ((fillM l i (k + 1) ⟨.free, 0#64⟩).map One.ref).flatten := by
                        rw [fillM_succ]
                        exact ref_set0 (o' := ⟨.free, 0#64⟩) (by rw [fillM_length]; simp only [Ck.many] at hfit; omega)
                      have ei : ((i : Int) + (k : Int)).toNat = i + k := by omega
                      simp only [Ck.many] at hfit
                      simp (disch := first | assumption | omega | (simp only [push_n, set_n]; done) | (simp only [push_n, set_n]; omega) | fail) only [go_sem, ↓reduceIte, Nat.reduceEqDiff, Nat.reduceAdd, Nat.reduceMul, Int.reduceToNat, Int.reduceAdd, Int.reduceTDiv, Nat.reduceLeDiff, a0, a3, a5, a11, am, iy3, gp3, gl3, ref_len, fillM_length, ei, gs]
                      refine ⟨_, Nat.sub_lt_sub_left hkn (Nat.lt_succ_self k), k + 1, rfl, by omega, rfl, n3, fun x hx hxl => ?_, rfl⟩
                      simp (disch := first | assumption | omega | (simp only [push_n, set_n]; done) | (simp only [push_n, set_n]; omega) | fail) only [go_sem, ↓reduceIte, Nat.reduceEqDiff, Nat.reduceAdd, Nat.reduceMul, Int.reduceToNat, Int.reduceAdd, Int.reduceTDiv, Nat.reduceLeDiff, g3]
                    · obtain rfl : k = n := by omega
                      simp (disch := first | assumption | omega | (simp only [push_n, set_n]; done) | (simp only [push_n, set_n]; omega) | fail) only [go_sem, ↓reduceIte, Nat.reduceEqDiff, Nat.reduceAdd, Nat.reduceMul, Int.reduceToNat, Int.reduceAdd, Int.reduceTDiv, Nat.reduceLeDiff, a0, a3, a5, a11, am, gp3]
                      refine q1 _ _ (hz _ (by rw [if_pos rfl, Int.toNat_natCast]) (by rw [htk]; rfl)) ⟨by (first | omega | (simp only [push_n, set_n]; done) | (simp only [push_n, set_n]; omega)), fun x hx hxl => g3 x hx hxl⟩ ⟨by omega, by omega, ly, ?_, fun _ => gl3⟩
                      rw [fillM_length]; exact iy3
                  · refine WE_unroll ?_
                    have gs := ref_set (o' := ⟨.huge n, 0#64⟩) ho 13 [.bool false] (by decide) rfl
                    simp (disch := first | assumption | omega | (simp only [push_n, set_n]; done) | (simp only [push_n, set_n]; omega) | fail) only [go_sem, ↓reduceIte, Nat.reduceEqDiff, Nat.reduceAdd, Nat.reduceMul, Int.reduceToNat, Int.reduceAdd, Int.reduceTDiv, Nat.reduceLeDiff, ir56, Pl.cells, iy, il, p0, ref_one, ref_put, One.ref, Ck.kind, Ck.cls, Ck.lane, Ck.many, htk, ref_len, gs]
                    refine q1 _ _ (hz _ (by rw [if_neg (by decide)]) (by rw [htk]; rfl)) ⟨by (first | omega | (simp only [push_n, set_n]; done) | (simp only [push_n, set_n]; omega)), fun x hx hxl => ?_⟩ ⟨by (first | omega | (simp only [push_n, set_n]; done) | (simp only [push_n, set_n]; omega)), by (first | omega | (simp only [push_n, set_n]; done) | (simp only [push_n, set_n]; omega)), ly, ?_, fun _ => ?_⟩
                    · simp (disch := first | assumption | omega | (simp only [push_n, set_n]; done) | (simp only [push_n, set_n]; omega) | fail) only [go_sem, ↓reduceIte, Nat.reduceEqDiff, Nat.reduceAdd, Nat.reduceMul, Int.reduceToNat, Int.reduceAdd, Int.reduceTDiv, Nat.reduceLeDiff]
                    · simp (disch := first | assumption | omega | (simp only [push_n, set_n]; done) | (simp only [push_n, set_n]; omega) | fail) only [go_sem, ↓reduceIte, Nat.reduceEqDiff, Nat.reduceAdd, Nat.reduceMul, Int.reduceToNat, Int.reduceAdd, Int.reduceTDiv, Nat.reduceLeDiff, iy, List.length_set]
                    · simp (disch := first | assumption | omega | (simp only [push_n, set_n]; done) | (simp only [push_n, set_n]; omega) | fail) only [go_sem, ↓reduceIte, Nat.reduceEqDiff, Nat.reduceAdd, Nat.reduceMul, Int.reduceToNat, Int.reduceAdd, Int.reduceTDiv, Nat.reduceLeDiff]
              | false =>
                rcases h12 with rfl | rfl
                · skip
                  simp (disch := first | assumption | omega | (simp only [push_n, set_n]; done) | (simp only [push_n, set_n]; omega) | fail) only [go_sem, ↓reduceIte, Nat.reduceEqDiff, Nat.reduceAdd, Nat.reduceMul, Int.reduceToNat, Int.reduceAdd, Int.reduceTDiv, Nat.reduceLeDiff, ir56, Pl.cells, iy, il, p0, ref_one, ref_put, One.ref, Ck.kind, Ck.cls, Ck.lane, Ck.many, htk]
                  rcases h01 with rfl | rfl
                  · refine WE_loop (fun m a h' => ∃ k : Nat, m = n - k ∧ k ≤ n ∧ a.get 0 = .pointer (some ⟨yb, 0, none⟩) ∧ a.get 3 = .int .i64 0 ∧ a.get 5 = .pointer (some ⟨h.n, 0, none⟩) ∧ a.get 11 = .int .i64 k ∧ a.marks = [] ∧ h'.n = h.n + 2 ∧ (∀ x, x < h.n → x ≠ lb → h'.get x = h.get x) ∧ h'.get h.n = .cells [.int .i64 i, .int .i64 0, .int .i64 (-1), .int .i64 n, .bool fresh] 30 false ∧ h'.get lb = .cells ((fillM l i k ⟨.free, 0#64⟩).map One.ref).flatten 90 false) ?_ (m := n) ⟨0, by omega, by omega, by simp (disch := first | assumption | omega | (simp only [push_n, set_n]; done) | (simp only [push_n, set_n]; omega) | fail) only [go_sem, ↓reduceIte, Nat.reduceEqDiff, Nat.reduceAdd, Nat.reduceMul, Int.reduceToNat, Int.reduceAdd, Int.reduceTDiv, Nat.reduceLeDiff], by simp (disch := first | assumption | omega | (simp only [push_n, set_n]; done) | (simp only [push_n, set_n]; omega) | fail) only [go_sem, ↓reduceIte, Nat.reduceEqDiff, Nat.reduceAdd, Nat.reduceMul, Int.reduceToNat, Int.reduceAdd, Int.reduceTDiv, Nat.reduceLeDiff], by simp (disch := first | assumption | omega | (simp only [push_n, set_n]; done) | (simp only [push_n, set_n]; omega) | fail) only [go_sem, ↓reduceIte, Nat.reduceEqDiff, Nat.reduceAdd, Nat.reduceMul, Int.reduceToNat, Int.reduceAdd, Int.reduceTDiv, Nat.reduceLeDiff], by simp (disch := first | assumption | omega | (simp only [push_n, set_n]; done) | (simp only [push_n, set_n]; omega) | fail) only [go_sem, ↓reduceIte, Nat.reduceEqDiff, Nat.reduceAdd, Nat.reduceMul, Int.reduceToNat, Int.reduceAdd, Int.reduceTDiv, Nat.reduceLeDiff], rfl, by simp (disch := first | assumption | omega | (simp only [push_n, set_n]; done) | (simp only [push_n, set_n]; omega) | fail) only [go_sem, ↓reduceIte, Nat.reduceEqDiff, Nat.reduceAdd, Nat.reduceMul, Int.reduceToNat, Int.reduceAdd, Int.reduceTDiv, Nat.reduceLeDiff], fun x hx hxl => by simp (disch := first | assumption | omega | (simp only [push_n, set_n]; done) | (simp only [push_n, set_n]; omega) | fail) only [go_sem, ↓reduceIte, Nat.reduceEqDiff, Nat.reduceAdd, Nat.reduceMul, Int.reduceToNat, Int.reduceAdd, Int.reduceTDiv, Nat.reduceLeDiff], by simp (disch := first | assumption | omega | (simp only [push_n, set_n]; done) | (simp only [push_n, set_n]; omega) | fail) only [go_sem, ↓reduceIte, Nat.reduceEqDiff, Nat.reduceAdd, Nat.reduceMul, Int.reduceToNat, Int.reduceAdd, Int.reduceTDiv, Nat.reduceLeDiff], by simp (disch := first | assumption | omega | (simp only [push_n, set_n]; done) | (simp only [push_n, set_n]; omega) | fail) only [go_sem, ↓reduceIte, Nat.reduceEqDiff, Nat.reduceAdd, Nat.reduceMul, Int.reduceToNat, Int.reduceAdd, Int.reduceTDiv, Nat.reduceLeDiff, il]; rfl⟩
                    rintro m a h3 ⟨k, rfl, hk, a0, a3, a5, a11, am, n3, g3, gp3, gl3⟩
                    have iy3 := (g3 yb yn (Ne.symm ly)).trans iy
                    by_cases hkn : k < n
                    · have gs : setAt ((fillM l i k ⟨.free, 0#64⟩).map One.ref).flatten ((i + k) * 14) [.int .i64 0, .int .i64 0, .int .i64 0, .int .i64 0, ub 0#64, .int .i64 0, .int .i64 0, .int .i64 0, .int .i64 0, .int .i64 0, .int .i64 0, .int .i64 0, .int .i64 0, .bool false] = ((fillM l i (k + 1) ⟨.free, 0#64⟩).map One.ref).flatten := by
                        rw [fillM_succ]
                        exact ref_set0 (o' := ⟨.free, 0#64⟩) (by rw [fillM_length]; simp only [Ck.many] at hfit; omega)
                      have ei : ((i : Int) + (k : Int)).toNat = i + k := by omega
                      simp only [Ck.many] at hfit
                      simp (disch := first | assumption | omega | (simp only [push_n, set_n]; done) | (simp only [push_n, set_n]; omega) | fail) only [go_sem, ↓reduceIte, Nat.reduceEqDiff, Nat.reduceAdd, Nat.reduceMul, Int.reduceToNat, Int.reduceAdd, Int.reduceTDiv, Nat.reduceLeDiff, a0, a3, a5, a11, am, iy3, gp3, gl3, ref_len, fillM_length, ei, gs]
                      refine ⟨_, Nat.sub_lt_sub_left hkn (Nat.lt_succ_self k), k + 1, rfl, by omega, rfl, n3, fun x hx hxl => ?_, rfl⟩
                      simp (disch := first | assumption | omega | (simp only [push_n, set_n]; done) | (simp only [push_n, set_n]; omega) | fail) only [go_sem, ↓reduceIte, Nat.reduceEqDiff, Nat.reduceAdd, Nat.reduceMul, Int.reduceToNat, Int.reduceAdd, Int.reduceTDiv, Nat.reduceLeDiff, g3]
                    · obtain rfl : k = n := by omega
                      simp (disch := first | assumption | omega | (simp only [push_n, set_n]; done) | (simp only [push_n, set_n]; omega) | fail) only [go_sem, ↓reduceIte, Nat.reduceEqDiff, Nat.reduceAdd, Nat.reduceMul, Int.reduceToNat, Int.reduceAdd, Int.reduceTDiv, Nat.reduceLeDiff, a0, a3, a5, a11, am, gp3]
                      refine q1 _ _ (hz _ (by rw [if_pos rfl, Int.toNat_natCast]) (by rw [htk]; rfl)) ⟨by (first | omega | (simp only [push_n, set_n]; done) | (simp only [push_n, set_n]; omega)), fun x hx hxl => g3 x hx hxl⟩ ⟨by omega, by omega, ly, ?_, fun _ => gl3⟩
                      rw [fillM_length]; exact iy3
                  · refine WE_unroll ?_
                    have gs := ref_set (o' := ⟨.huge n, 0#64⟩) ho 13 [.bool false] (by decide) rfl
                    simp (disch := first | assumption | omega | (simp only [push_n, set_n]; done) | (simp only [push_n, set_n]; omega) | fail) only [go_sem, ↓reduceIte, Nat.reduceEqDiff, Nat.reduceAdd, Nat.reduceMul, Int.reduceToNat, Int.reduceAdd, Int.reduceTDiv, Nat.reduceLeDiff, ir56, Pl.cells, iy, il, p0, ref_one, ref_put, One.ref, Ck.kind, Ck.cls, Ck.lane, Ck.many, htk, ref_len, gs]
                    refine q1 _ _ (hz _ (by rw [if_neg (by decide)]) (by rw [htk]; rfl)) ⟨by (first | omega | (simp only [push_n, set_n]; done) | (simp only [push_n, set_n]; omega)), fun x hx hxl => ?_⟩ ⟨by (first | omega | (simp only [push_n, set_n]; done) | (simp only [push_n, set_n]; omega)), by (first | omega | (simp only [push_n, set_n]; done) | (simp only [push_n, set_n]; omega)), ly, ?_, fun _ => ?_⟩
                    · simp (disch := first | assumption | omega | (simp only [push_n, set_n]; done) | (simp only [push_n, set_n]; omega) | fail) only [go_sem, ↓reduceIte, Nat.reduceEqDiff, Nat.reduceAdd, Nat.reduceMul, Int.reduceToNat, Int.reduceAdd, Int.reduceTDiv, Nat.reduceLeDiff]
                    · simp (disch := first | assumption | omega | (simp only [push_n, set_n]; done) | (simp only [push_n, set_n]; omega) | fail) only [go_sem, ↓reduceIte, Nat.reduceEqDiff, Nat.reduceAdd, Nat.reduceMul, Int.reduceToNat, Int.reduceAdd, Int.reduceTDiv, Nat.reduceLeDiff, iy, List.length_set]
                    · simp (disch := first | assumption | omega | (simp only [push_n, set_n]; done) | (simp only [push_n, set_n]; omega) | fail) only [go_sem, ↓reduceIte, Nat.reduceEqDiff, Nat.reduceAdd, Nat.reduceMul, Int.reduceToNat, Int.reduceAdd, Int.reduceTDiv, Nat.reduceLeDiff]
                · skip
                  simp (disch := first | assumption | omega | (simp only [push_n, set_n]; done) | (simp only [push_n, set_n]; omega) | fail) only [go_sem, ↓reduceIte, Nat.reduceEqDiff, Nat.reduceAdd, Nat.reduceMul, Int.reduceToNat, Int.reduceAdd, Int.reduceTDiv, Nat.reduceLeDiff, ir56, Pl.cells, iy, il, p0, ref_one, ref_put, One.ref, Ck.kind, Ck.cls, Ck.lane, Ck.many, htk]
                  exact q0 _ (hx (by rw [htk]; decide)) (by repeat (first | assumption | exact Ext.refl _ | refine Ext.push ?_ | refine Ext.set ?_ (by omega) | refine Ext.trans ?_ (by assumption)))
            · have hat : turnM l ⟨i, index, -1, n, fresh⟩ is next = none := by unfold turnM; simp [atM, ho, Ck.kind, Ck.many, k3]
              cases htk : One.tkn ⟨.huge n, t⟩ with
              | true =>
                simp (disch := first | assumption | omega | (simp only [push_n, set_n]; done) | (simp only [push_n, set_n]; omega) | fail) only [go_sem, ↓reduceIte, Nat.reduceEqDiff, Nat.reduceAdd, Nat.reduceMul, Int.reduceToNat, Int.reduceAdd, Int.reduceTDiv, Nat.reduceLeDiff, ir56, Pl.cells, iy, il, p0, ref_one, ref_put, One.ref, Ck.kind, Ck.cls, Ck.lane, Ck.many, htk]
                exact q0 _ hat (by repeat (first | assumption | exact Ext.refl _ | refine Ext.push ?_ | refine Ext.set ?_ (by omega) | refine Ext.trans ?_ (by assumption)))
              | false =>
                simp (disch := first | assumption | omega | (simp only [push_n, set_n]; done) | (simp only [push_n, set_n]; omega) | fail) only [go_sem, ↓reduceIte, Nat.reduceEqDiff, Nat.reduceAdd, Nat.reduceMul, Int.reduceToNat, Int.reduceAdd, Int.reduceTDiv, Nat.reduceLeDiff, ir56, Pl.cells, iy, il, p0, ref_one, ref_put, One.ref, Ck.kind, Ck.cls, Ck.lane, Ck.many, htk]
                exact q0 _ hat (by repeat (first | assumption | exact Ext.refl _ | refine Ext.push ?_ | refine Ext.set ?_ (by omega) | refine Ext.trans ?_ (by assumption)))
          · have hat : turnM l ⟨i, index, -1, many, fresh⟩ is next = none := by unfold turnM; simp [atM, ho, Ck.kind, Ck.many, k2]
            cases htk : One.tkn ⟨.huge n, t⟩ with
            | true =>
              simp (disch := first | assumption | omega | (simp only [push_n, set_n]; done) | (simp only [push_n, set_n]; omega) | fail) only [go_sem, ↓reduceIte, Nat.reduceEqDiff, Nat.reduceAdd, Nat.reduceMul, Int.reduceToNat, Int.reduceAdd, Int.reduceTDiv, Nat.reduceLeDiff, ir56, Pl.cells, iy, il, p0, ref_one, ref_put, One.ref, Ck.kind, Ck.cls, Ck.lane, Ck.many, htk]
              exact q0 _ hat (by repeat (first | assumption | exact Ext.refl _ | refine Ext.push ?_ | refine Ext.set ?_ (by omega) | refine Ext.trans ?_ (by assumption)))
            | false =>
              simp (disch := first | assumption | omega | (simp only [push_n, set_n]; done) | (simp only [push_n, set_n]; omega) | fail) only [go_sem, ↓reduceIte, Nat.reduceEqDiff, Nat.reduceAdd, Nat.reduceMul, Int.reduceToNat, Int.reduceAdd, Int.reduceTDiv, Nat.reduceLeDiff, ir56, Pl.cells, iy, il, p0, ref_one, ref_put, One.ref, Ck.kind, Ck.cls, Ck.lane, Ck.many, htk]
              exact q0 _ hat (by repeat (first | assumption | exact Ext.refl _ | refine Ext.push ?_ | refine Ext.set ?_ (by omega) | refine Ext.trans ?_ (by assumption)))
        · have hat : turnM l ⟨i, index, -1, many, fresh⟩ is next = none := by unfold turnM; simp [atM, ho, k1]
          cases htk : o.tkn with
          | true =>
            simp (disch := first | assumption | omega | (simp only [push_n, set_n]; done) | (simp only [push_n, set_n]; omega) | fail) only [go_sem, ↓reduceIte, Nat.reduceEqDiff, Nat.reduceAdd, Nat.reduceMul, Int.reduceToNat, Int.reduceAdd, Int.reduceTDiv, Nat.reduceLeDiff, ir56, Pl.cells, iy, il, p0, ref_one, ref_put, One.ref, htk]
            exact q0 _ hat (by repeat (first | assumption | exact Ext.refl _ | refine Ext.push ?_ | refine Ext.set ?_ (by omega) | refine Ext.trans ?_ (by assumption)))
          | false =>
            simp (disch := first | assumption | omega | (simp only [push_n, set_n]; done) | (simp only [push_n, set_n]; omega) | fail) only [go_sem, ↓reduceIte, Nat.reduceEqDiff, Nat.reduceAdd, Nat.reduceMul, Int.reduceToNat, Int.reduceAdd, Int.reduceTDiv, Nat.reduceLeDiff, ir56, Pl.cells, iy, il, p0, ref_one, ref_put, One.ref, htk]
            exact q0 _ hat (by repeat (first | assumption | exact Ext.refl _ | refine Ext.push ?_ | refine Ext.set ?_ (by omega) | refine Ext.trans ?_ (by assumption)))
      · by_cases k1 : o.c.kind = 1
        · obtain ⟨k, b, ec⟩ := Ck.kind_run k1
          obtain ⟨c, t⟩ := o
          simp only at ec
          subst ec
          have hk3 : k < 3 := hto.1
          have h8 := (many_pos k hk3).2
          by_cases k2 : (k : Int) = cls
          · subst k2
            by_cases k3 : 0 ≤ index
            · obtain ⟨m, rfl⟩ : ∃ m : Nat, index = m := ⟨index.toNat, by omega⟩
              simp (disch := first | assumption | omega | (simp only [push_n, set_n]; done) | (simp only [push_n, set_n]; omega) | fail) only [go_sem, ↓reduceIte, Nat.reduceEqDiff, Nat.reduceAdd, Nat.reduceMul, Int.reduceToNat, Int.reduceAdd, Int.reduceTDiv, Nat.reduceLeDiff, ir56, Pl.cells, iy, il, p0, ref_one, ref_put, One.ref, Ck.kind, Ck.cls, Ck.lane, Ck.many]
              refine f20_spec hk3 ?_
              by_cases k4 : m < manyOf k
              · have hat : atM l ⟨i, m, k, many, fresh⟩ = some (i, bitB m) := by simp [atM, ho, c3, Ck.kind, Ck.cls, k4]
                have pk : getAt (One.ref ⟨.run k b, t⟩) (5 + m) 1 = some [.int .i64 (One.blk ⟨.run k b, t⟩ m)] := ref_blk (by omega)
                unfold One.ref at pk
                simp only [Ck.kind, Ck.cls, Ck.lane, Ck.many, Int.cast_ofNat_Int] at pk
                by_cases hb : One.blk ⟨.run k b, t⟩ m = is
                · have hz : turnM l ⟨i, m, k, many, fresh⟩ is next = some (l.set i (One.turn ⟨.run k b, t⟩ m next)) := by
                    unfold turnM
                    rw [hat]
                    simp only [ho]
                    rw [if_neg c3, Int.toNat_natCast, if_pos hb]
                  have gs := ref_set (o' := One.turn ⟨.run k b, t⟩ m next) ho (5 + m) [.int .i64 next] (by simp; omega) (ref_turn (by omega) (by omega))
                  rw [← Nat.add_assoc] at gs
                  rw [hb] at pk
                  simp (disch := first | assumption | omega | (simp only [push_n, set_n]; done) | (simp only [push_n, set_n]; omega) | fail) only [go_sem, ↓reduceIte, Nat.reduceEqDiff, Nat.reduceAdd, Nat.reduceMul, Int.reduceToNat, Int.reduceAdd, Int.reduceTDiv, Nat.reduceLeDiff, iy, il, pk, ref_len, gs]
                  refine q1 _ _ hz ⟨by (first | omega | (simp only [push_n, set_n]; done) | (simp only [push_n, set_n]; omega)), fun x hx hxl => ?_⟩ ⟨by (first | omega | (simp only [push_n, set_n]; done) | (simp only [push_n, set_n]; omega)), by (first | omega | (simp only [push_n, set_n]; done) | (simp only [push_n, set_n]; omega)), ly, ?_, fun _ => ?_⟩
                  · simp (disch := first | assumption | omega | (simp only [push_n, set_n]; done) | (simp only [push_n, set_n]; omega) | fail) only [go_sem, ↓reduceIte, Nat.reduceEqDiff, Nat.reduceAdd, Nat.reduceMul, Int.reduceToNat, Int.reduceAdd, Int.reduceTDiv, Nat.reduceLeDiff]
                  · simp (disch := first | assumption | omega | (simp only [push_n, set_n]; done) | (simp only [push_n, set_n]; omega) | fail) only [go_sem, ↓reduceIte, Nat.reduceEqDiff, Nat.reduceAdd, Nat.reduceMul, Int.reduceToNat, Int.reduceAdd, Int.reduceTDiv, Nat.reduceLeDiff, iy, List.length_set]
                  · simp (disch := first | assumption | omega | (simp only [push_n, set_n]; done) | (simp only [push_n, set_n]; omega) | fail) only [go_sem, ↓reduceIte, Nat.reduceEqDiff, Nat.reduceAdd, Nat.reduceMul, Int.reduceToNat, Int.reduceAdd, Int.reduceTDiv, Nat.reduceLeDiff]
                · have hz : turnM l ⟨i, m, k, many, fresh⟩ is next = none := by
                    unfold turnM
                    rw [hat]
                    simp only [ho]
                    rw [if_neg c3, Int.toNat_natCast, if_neg hb]
                  simp (disch := first | assumption | omega | (simp only [push_n, set_n]; done) | (simp only [push_n, set_n]; omega) | fail) only [go_sem, ↓reduceIte, Nat.reduceEqDiff, Nat.reduceAdd, Nat.reduceMul, Int.reduceToNat, Int.reduceAdd, Int.reduceTDiv, Nat.reduceLeDiff, iy, il, pk]
                  exact q0 _ hz (by repeat (first | assumption | exact Ext.refl _ | refine Ext.push ?_ | refine Ext.set ?_ (by omega) | refine Ext.trans ?_ (by assumption)))
              · have hat : turnM l ⟨i, m, k, many, fresh⟩ is next = none := by unfold turnM; simp [atM, ho, c3, Ck.kind, Ck.cls, k4]
                simp (disch := first | assumption | omega | (simp only [push_n, set_n]; done) | (simp only [push_n, set_n]; omega) | fail) only [go_sem, ↓reduceIte, Nat.reduceEqDiff, Nat.reduceAdd, Nat.reduceMul, Int.reduceToNat, Int.reduceAdd, Int.reduceTDiv, Nat.reduceLeDiff, iy, il]
                exact q0 _ hat (by repeat (first | assumption | exact Ext.refl _ | refine Ext.push ?_ | refine Ext.set ?_ (by omega) | refine Ext.trans ?_ (by assumption)))
            · have hat : turnM l ⟨i, index, k, many, fresh⟩ is next = none := by unfold turnM; simp [atM, ho, c3, Ck.kind, Ck.cls, k3]
              simp (disch := first | assumption | omega | (simp only [push_n, set_n]; done) | (simp only [push_n, set_n]; omega) | fail) only [go_sem, ↓reduceIte, Nat.reduceEqDiff, Nat.reduceAdd, Nat.reduceMul, Int.reduceToNat, Int.reduceAdd, Int.reduceTDiv, Nat.reduceLeDiff, ir56, Pl.cells, iy, il, p0, ref_one, ref_put, One.ref, Ck.kind, Ck.cls, Ck.lane, Ck.many]
              exact q0 _ hat (by repeat (first | assumption | exact Ext.refl _ | refine Ext.push ?_ | refine Ext.set ?_ (by omega) | refine Ext.trans ?_ (by assumption)))
          · have hat : turnM l ⟨i, index, cls, many, fresh⟩ is next = none := by unfold turnM; simp [atM, ho, c3, Ck.kind, Ck.cls, k2]
            simp (disch := first | assumption | omega | (simp only [push_n, set_n]; done) | (simp only [push_n, set_n]; omega) | fail) only [go_sem, ↓reduceIte, Nat.reduceEqDiff, Nat.reduceAdd, Nat.reduceMul, Int.reduceToNat, Int.reduceAdd, Int.reduceTDiv, Nat.reduceLeDiff, ir56, Pl.cells, iy, il, p0, ref_one, ref_put, One.ref, Ck.kind, Ck.cls, Ck.lane, Ck.many]
            exact q0 _ hat (by repeat (first | assumption | exact Ext.refl _ | refine Ext.push ?_ | refine Ext.set ?_ (by omega) | refine Ext.trans ?_ (by assumption)))
        · have hat : turnM l ⟨i, index, cls, many, fresh⟩ is next = none := by unfold turnM; simp [atM, ho, c3, k1]
          simp (disch := first | assumption | omega | (simp only [push_n, set_n]; done) | (simp only [push_n, set_n]; omega) | fail) only [go_sem, ↓reduceIte, Nat.reduceEqDiff, Nat.reduceAdd, Nat.reduceMul, Int.reduceToNat, Int.reduceAdd, Int.reduceTDiv, Nat.reduceLeDiff, ir56, Pl.cells, iy, il, p0, ref_one, ref_put, One.ref]
          exact q0 _ hat (by repeat (first | assumption | exact Ext.refl _ | refine Ext.push ?_ | refine Ext.set ?_ (by omega) | refine Ext.trans ?_ (by assumption)))
    · have hat : turnM l ⟨i, index, cls, many, fresh⟩ is next = none := by unfold turnM; simp [atM, List.getElem?_eq_none (show l.length ≤ i by omega)]
      simp (disch := first | assumption | omega | (simp only [push_n, set_n]; done) | (simp only [push_n, set_n]; omega) | fail) only [go_sem, ↓reduceIte, Nat.reduceEqDiff, Nat.reduceAdd, Nat.reduceMul, Int.reduceToNat, Int.reduceAdd, Int.reduceTDiv, Nat.reduceLeDiff, ir56, Pl.cells, iy]
      exact q0 _ hat (by repeat (first | assumption | exact Ext.refl _ | refine Ext.push ?_ | refine Ext.set ?_ (by omega) | refine Ext.trans ?_ (by assumption)))
  · have hat : turnM l ⟨chunk, index, cls, many, fresh⟩ is next = none := by unfold turnM; simp [atM, c1]
    simp (disch := first | assumption | omega | (simp only [push_n, set_n]; done) | (simp only [push_n, set_n]; omega) | fail) only [go_sem, ↓reduceIte, Nat.reduceEqDiff, Nat.reduceAdd, Nat.reduceMul, Int.reduceToNat, Int.reduceAdd, Int.reduceTDiv, Nat.reduceLeDiff, ir56, Pl.cells, iy]
    exact q0 _ hat (by repeat (first | assumption | exact Ext.refl _ | refine Ext.push ?_ | refine Ext.set ?_ (by omega) | refine Ext.trans ?_ (by assumption)))
end Go.Am.YtdcppkhobfbpeaaDoor
