/-
  Taking and dropping: what is taken, and by whom.
-/
import Derived.Test.YtdcppkhobfbpeaaDoorD25
set_option linter.unusedVariables false
set_option linter.unusedSimpArgs false
namespace Go.Am.YtdcppkhobfbpeaaDoor
open Go Go.Am Go.Proofs

/-- A place is taken: its chunk, and its bit. -/
inductive Held (l : List One) : Pl → Nat → Nat → Prop
  | run (i m k : Nat) (b t : BitVec 64) (many : Int) (f : Bool) (ho : l[i]? = some ⟨.run k b, t⟩) (hm : m < manyOf k) (hk : k < 3) (ht : t.getLsbD m = true) : Held l ⟨i, m, k, many, f⟩ i m
  | huge (i n : Nat) (t : BitVec 64) (f : Bool) (ho : l[i]? = some ⟨.huge n, t⟩) (ht : t.getLsbD 0 = true) : Held l ⟨i, 0, -1, n, f⟩ i 0
theorem Held.chunk {l : List One} {p : Pl} {i m : Nat} (h : Held l p i m) : p.chunk = i ∧ p.index = m := by
  cases h <;> exact ⟨rfl, rfl⟩
theorem Held.at {l : List One} {p : Pl} {i m : Nat} (h : Held l p i m) : ∃ o, l[i]? = some o ∧ o.t.getLsbD m = true ∧ o.free = false ∧ o.c.kind ≠ 3 := by
  cases h with
  | run _ _ k b t many f ho hm hk ht =>
    refine ⟨_, ho, ht, ?_, by simp [Ck.kind]⟩
    have : t ≠ 0#64 := by rintro rfl; simp at ht
    simp [One.free, this]
  | huge _ n t f ho ht => exact ⟨_, ho, ht, rfl, by simp [Ck.kind]⟩
/-- The same chunk, or one of whom more is taken. -/
theorem Held.same {l l' : List One} {p : Pl} {i m : Nat} (h : Held l p i m) (he : l'[i]? = l[i]?) : Held l' p i m := by
  cases h with
  | run _ _ k b t many f ho hm hk ht => exact .run i m k b t many f (he.trans ho) hm hk ht
  | huge _ n t f ho ht => exact .huge i n t f (he.trans ho) ht

theorem getLsbD_or_bit {t : BitVec 64} {m j : Nat} (hm : m < 64) : (t ||| bitB m).getLsbD j = true ↔ t.getLsbD j = true ∨ j = m := by
  rw [BitVec.getLsbD_or, bitB_get]
  by_cases e : j = m
  · subst e; simp [hm]
  · simp [e]
theorem getLsbD_and_bit {t : BitVec 64} {m j : Nat} : (t &&& ~~~bitB m).getLsbD j = true ↔ t.getLsbD j = true ∧ j ≠ m := by
  rw [BitVec.getLsbD_and, BitVec.getLsbD_not, bitB_get]
  by_cases e : j = m
  · subst e; simp
  · simp [e]
    intro h6
    rcases Nat.lt_or_ge j 64 with h8 | h8
    · exact h8
    · have := BitVec.getLsbD_of_ge t j h8; rw [this] at h6; cases h6
theorem bit0 : bitB 0 = 1#64 := rfl
theorem bitB_true {m j : Nat} (h : (bitB m).getLsbD j = true) : j = m := by rw [bitB_get] at h; simp at h; exact h.2

/-- What is taken has one more. -/
structure TakeOK (l l' : List One) (p : Pl) (i m : Nat) : Prop where
  wf : Wf l'
  alike : Alike (tableM l) (tableM l')
  len : l'.length = l.length
  held : Held l' p i m
  keep : ∀ q j b, Held l q j b → Held l' q j b ∧ ¬ (j = i ∧ b = m)
  only : ∀ j b o', l'[j]? = some o' → o'.t.getLsbD b = true → (j = i ∧ b = m) ∨ ∃ o, l[j]? = some o ∧ o.t.getLsbD b = true
theorem take_step {l : List One} {n : Nat} (hw : Wf l) (hn : n ≤ 4096) : ((takeM l n).2.1 = 2 ∧ (takeM l n).2.2 = l) ∨ ((takeM l n).2.1 = 0 ∧ ∃ i m, TakeOK l (takeM l n).2.2 (takeM l n).1 i m) := by
  cases took l n with
  | block k i m b t hc hk hi hm hb ht hrun e =>
    right
    rw [e]
    have h64 : m < 64 := by have := (many_pos k hk).2; omega
    have hil := lt_of_get hi
    have sw := sw_set (o' := ⟨.run k b, t ||| bitB m⟩) hw hi ⟨by simp [Ck.kind], by simp [Ck.kind]⟩ ⟨by simp [Ck.kind], by simp [Ck.kind]⟩
    have hok := hw.ok _ (List.mem_of_getElem? hi)
    refine ⟨rfl, i, m, ⟨sw.wf hw (by simpa using hok), sw.alike (by rw [table_lone (by simp [Ck.kind]), table_lone (by simp [Ck.kind])]; exact Alike.refl _), sw.length, ?_, ?_, ?_⟩⟩
    · exact .run i m k b (t ||| bitB m) 0 false (by simp [hil]) hm hk ((getLsbD_or_bit h64).2 (.inr rfl))
    · intro q j x hq
      by_cases hji : j = i
      · subst hji
        cases hq with
        | run _ _ k' b' t' many f ho hm' hk' ht' =>
          rw [hi] at ho
          injection ho with ho
          injection ho with ho1 ho2
          injection ho1 with ho1 ho3
          subst ho1 ho2 ho3
          refine ⟨.run j x k b _ many f (by simp [hil]) hm' hk ((getLsbD_or_bit h64).2 (.inl ht')), ?_⟩
          rintro ⟨_, rfl⟩
          rw [ht] at ht'; cases ht'
        | huge _ n' t' f ho ht' => rw [hi] at ho; injection ho with ho; injection ho with ho; cases ho
      · exact ⟨hq.same (by rw [List.getElem?_set, if_neg (Ne.symm hji)]), fun h => hji h.1⟩
    · intro j x o' ho' hx
      rw [List.getElem?_set] at ho'
      split at ho'
      · rename_i e2
        subst e2
        injection ho' with ho'
        subst ho'
        rcases (getLsbD_or_bit h64).1 hx with h1 | h1
        · exact .inr ⟨_, hi, h1⟩
        · exact .inl ⟨rfl, h1⟩
      · exact .inr ⟨_, ho', hx⟩
  | fresh k i hc hk hno hi hr e =>
    right
    rw [e]
    have hfr := rowI_true hr i (Nat.le_refl _) (by omega)
    obtain ⟨o, ho, hof⟩ := free_at hfr
    obtain ⟨hlone, hmay⟩ := free_lone hof
    have sw := sw_set (o' := ⟨.run k 0#64, bitB 0⟩) hw ho hlone ⟨by simp [Ck.kind], by simp [Ck.kind]⟩
    have h8 := many_pos k hk
    refine ⟨rfl, i, 0, ⟨sw.wf hw (by simp [Ck.ok, hk]; exact Nat.pow_pos (by decide)), sw.alike ?_, sw.length, ?_, ?_, ?_⟩⟩
    · rw [table_lone hlone.1, table_lone (by simp [Ck.kind])]
      exact ⟨.inr ⟨hmay, by simp [Ck.may]⟩, trivial⟩
    · exact .run i 0 k 0#64 (bitB 0) 0 true (by simp [hi]) h8.1 hk (by simp [bitB])
    · intro q j x hq
      have hji : j ≠ i := by
        rintro rfl
        obtain ⟨o2, ho2, _, hf2, _⟩ := hq.at
        rw [ho] at ho2
        injection ho2 with ho2
        subst ho2
        rw [hof] at hf2; cases hf2
      exact ⟨hq.same (by rw [List.getElem?_set, if_neg (Ne.symm hji)]), fun h => hji h.1⟩
    · intro j x o' ho' hx
      rw [List.getElem?_set] at ho'
      split at ho'
      · rename_i e2
        subst e2
        injection ho' with ho'
        subst ho'
        exact .inl ⟨rfl, bitB_true hx⟩
      · exact .inr ⟨_, ho', hx⟩
  | large i hc hi hr e =>
    right
    rw [e]
    have hm : 1 ≤ chunksOf n ∧ chunksOf n ≤ 8191 := by unfold chunksOf; omega
    generalize chunksOf n = many at *
    have frs : ∀ j, j < many → ∃ o, l[i + j]? = some o ∧ o.free = true := fun j hj => free_at (rowI_true hr (i + j) (by omega) (by omega))
    have sw := sw_row (X' := ⟨.huge many, 1#64⟩ :: List.replicate (many - 1) ⟨.tail, 0#64⟩) hw hi.1 hm.1 (fun j hj => let ⟨o, h1, h2⟩ := frs j hj; ⟨o, h1, (free_lone h2).1⟩)
      (by rw [List.map_cons, List.map_replicate]; exact right_huge hm.1) (by simp; omega)
    have el : (fillM l i many ⟨.tail, 0#64⟩).set i ⟨.huge many, 1#64⟩ = l.take i ++ (⟨.huge many, 1#64⟩ :: List.replicate (many - 1) ⟨.tail, 0#64⟩) ++ l.drop (i + many) := by
      rw [fillM_eq hi.1, List.append_assoc, List.set_append_right _ _ (by simp; omega), List.length_take, Nat.min_eq_left (by omega), Nat.sub_self]
      obtain ⟨k, rfl⟩ : ∃ k, many = k + 1 := ⟨many - 1, by omega⟩
      rw [List.replicate_succ, List.cons_append, List.set_cons_zero, List.append_assoc]; rfl
    have hxl : ((l.drop i).take many).length = many := by simp; omega
    have hal : (l.take i).length = i := by simp; omega
    have mids : ∀ o ∈ (l.drop i).take many, o.free = true := fun o ho => by
      obtain ⟨j, hj⟩ := List.getElem?_of_mem ho
      have hjn : j < many := by have := lt_of_get hj; omega
      rw [mid_get hjn] at hj
      obtain ⟨o', h1, h2⟩ := frs j hjn
      rw [h1] at hj; injection hj with hj; rw [← hj]; exact h2
    have gi : ∀ j, ((fillM l i many ⟨.tail, 0#64⟩).set i ⟨.huge many, 1#64⟩)[j]? = if j = i then some ⟨.huge many, 1#64⟩ else if i ≤ j ∧ j < i + many then some ⟨.tail, 0#64⟩ else l[j]? := fun j => by
      rw [List.getElem?_set, fillM_length, fillM_get]
      by_cases e1 : i = j
      · rw [if_pos e1, if_pos e1.symm, if_pos (by omega)]
      · rw [if_neg e1, if_neg (Ne.symm e1)]
        by_cases e2 : i ≤ j ∧ j < i + many
        · rw [if_pos e2, if_pos e2, if_pos (by omega)]
        · rw [if_neg e2, if_neg e2]
    rw [← el] at sw
    refine ⟨rfl, i, 0, ⟨sw.wf hw ?_, sw.alike ?_, sw.length, ?_, ?_, ?_⟩⟩
    · intro o ho
      rcases List.mem_cons.1 ho with h1 | h1
      · subst h1; exact hm
      · rw [List.eq_of_mem_replicate h1]; trivial
    · rw [table_huge (by rw [List.map_replicate]) hm.1, if_neg (by decide), table_lones fun o ho => (free_lone (mids o ho)).1]
      refine Alike.mays (fun c hc => ?_) (fun c hc => by rw [List.eq_of_mem_replicate hc]; rfl) (by simp; omega)
      obtain ⟨o, ho, rfl⟩ := List.mem_map.1 hc
      exact (free_lone (mids o ho)).2
    · exact .huge i many 1#64 false (by rw [gi, if_pos rfl]) rfl
    · intro q j x hq
      have hji : ¬ (i ≤ j ∧ j < i + many) := by
        rintro ⟨h1, h2⟩
        obtain ⟨o2, ho2, _, hf2, _⟩ := hq.at
        obtain ⟨o3, ho3, hf3⟩ := frs (j - i) (by omega)
        rw [show i + (j - i) = j by omega, ho2] at ho3
        injection ho3 with ho3
        subst ho3
        rw [hf3] at hf2; cases hf2
      exact ⟨hq.same (by rw [gi, if_neg (by omega), if_neg hji]), fun h => hji (by omega)⟩
    · intro j x o' ho' hx
      rw [gi] at ho'
      split at ho'
      · rename_i e2
        subst e2
        injection ho' with ho'
        subst ho'
        exact .inl ⟨rfl, bitB_true (m := 0) hx⟩
      · split at ho'
        · injection ho' with ho'
          subst ho'
          simp at hx
        · exact .inr ⟨_, ho', hx⟩
  | no e hh => left; rw [e]; exact ⟨rfl, rfl⟩

/-- What is taken has one less. -/
structure DropOK (l l' : List One) (p : Pl) (i m : Nat) : Prop where
  wf : Wf l'
  alike : Alike (tableM l) (tableM l')
  len : l'.length = l.length
  nodrop : dropM l' p = none
  nokeep : keepM l' p = none
  keep : ∀ q j b, Held l q j b → ¬ (j = i ∧ b = m) → Held l' q j b
  only : ∀ j b o', l'[j]? = some o' → o'.t.getLsbD b = true → ¬ (j = i ∧ b = m) ∧ ∃ o, l[j]? = some o ∧ o.t.getLsbD b = true
theorem drop_step {l : List One} {p : Pl} {i m : Nat} (hw : Wf l) (h : Held l p i m) : ∃ l', dropM l p = some l' ∧ DropOK l l' p i m := by
  cases h with
  | run _ _ k b t many f ho hm hk ht =>
    have h8 := (many_pos k hk).2
    have hil := lt_of_get ho
    have hn1 : ¬ (k : Int) = -1 := by omega
    have hok := hw.ok _ (List.mem_of_getElem? ho)
    have at1 : ∀ (l2 : List One) (t2 : BitVec 64), l2[i]? = some ⟨.run k b, t2⟩ → atM l2 ⟨i, m, k, many, f⟩ = some (i, bitB m) := fun l2 t2 h2 => by
      simp [atM, h2, hn1, Ck.kind, Ck.cls, hm]
    have hg : (l.set i ⟨.run k b, t &&& ~~~bitB m⟩)[i]? = some ⟨.run k b, t &&& ~~~bitB m⟩ := by simp [hil]
    have hne := and_bit_ne (show m < 64 by omega) ht
    have e1 : dropM l ⟨i, m, k, many, f⟩ = some (l.set i ⟨.run k b, t &&& ~~~bitB m⟩) := by
      unfold dropM
      rw [at1 l t ho]
      simp only [ho]
      rw [if_neg hne]
      unfold goneM
      rw [if_neg hn1]
    have sw := sw_set (o' := ⟨.run k b, t &&& ~~~bitB m⟩) hw ho ⟨by simp [Ck.kind], by simp [Ck.kind]⟩ ⟨by simp [Ck.kind], by simp [Ck.kind]⟩
    refine ⟨_, e1, ⟨sw.wf hw (by simpa using hok), sw.alike (by rw [table_lone (by simp [Ck.kind]), table_lone (by simp [Ck.kind])]; exact Alike.refl _), sw.length, ?_, ?_, ?_, ?_⟩⟩
    · unfold dropM
      rw [at1 _ _ hg]
      simp only [hg]
      rw [if_pos and_not_bit]
    · unfold keepM
      rw [at1 _ _ hg]
      simp only [hg]
      rw [if_pos and_not_bit]
    · intro q j x hq hne2
      by_cases hji : j = i
      · subst hji
        cases hq with
        | run _ _ k' b' t' many' f' ho' hm' hk' ht' =>
          rw [ho] at ho'
          injection ho' with ho'
          injection ho' with ho1 ho2
          injection ho1 with ho1 ho3
          subst ho1 ho2 ho3
          exact .run j x k b _ many' f' hg hm' hk (getLsbD_and_bit.2 ⟨ht', fun e => hne2 ⟨rfl, e⟩⟩)
        | huge _ n' t' f' ho' ht' => rw [ho] at ho'; injection ho' with ho'; injection ho' with ho'; cases ho'
      · exact hq.same (by rw [List.getElem?_set, if_neg (Ne.symm hji)])
    · intro j x o' ho' hx
      rw [List.getElem?_set] at ho'
      split at ho'
      · rename_i e2
        subst e2
        injection ho' with ho'
        subst ho'
        obtain ⟨h1, h2⟩ := getLsbD_and_bit.1 hx
        exact ⟨fun e => h2 e.2, _, ho, h1⟩
      · rename_i e2
        exact ⟨fun e => e2 e.1.symm, _, ho', hx⟩
  | huge _ n t f ho ht =>
    have hil := lt_of_get ho
    obtain ⟨sw, em, hn, h1, ex⟩ := sw_huge (X' := List.replicate n ⟨.free, 0#64⟩) hw ho (by rw [List.map_replicate]; exact right_lones ⟨by simp [Ck.kind], by simp [Ck.kind]⟩) (by simp)
    have hne : t &&& 1#64 ≠ 0#64 := and_bit_ne (n := 0) (by decide) ht
    have at1 : atM l ⟨i, 0, -1, n, f⟩ = some (i, 1#64) := atM_huge ho
    have e1 : dropM l ⟨i, 0, -1, n, f⟩ = some (l.take i ++ List.replicate n ⟨.free, 0#64⟩ ++ l.drop (i + n)) := by
      unfold dropM
      rw [at1]
      simp only [ho]
      rw [if_neg hne]
      have : goneM (l.set i ⟨.huge n, t &&& ~~~1#64⟩) ⟨i, 0, -1, n, f⟩ = fillM (l.set i ⟨.huge n, t &&& ~~~1#64⟩) i n ⟨.free, 0#64⟩ := by
        unfold goneM; simp
      rw [this, fillM_eq (by simpa using hn)]
      have d1 : (l.set i ⟨.huge n, t &&& ~~~1#64⟩).take i = l.take i := by rw [List.take_set, List.set_eq_of_length_le (by simp; omega)]
      have d2 : (l.set i ⟨.huge n, t &&& ~~~1#64⟩).drop (i + n) = l.drop (i + n) := by rw [List.drop_set, if_pos (by omega)]
      rw [d1, d2]
    have gi : ∀ j, (l.take i ++ List.replicate n ⟨.free, 0#64⟩ ++ l.drop (i + n))[j]? = if i ≤ j ∧ j < i + n then some (⟨.free, 0#64⟩ : One) else l[j]? := fun j => by
      rw [← fillM_eq hn, fillM_get]
      by_cases e2 : i ≤ j ∧ j < i + n
      · rw [if_pos e2, if_pos e2, if_pos (by omega)]
      · rw [if_neg e2, if_neg e2]
    have hgi := gi i
    rw [if_pos (by omega)] at hgi
    have at2 : atM (l.take i ++ List.replicate n ⟨.free, 0#64⟩ ++ l.drop (i + n)) ⟨i, 0, -1, n, f⟩ = none := by
      unfold atM
      simp only [show (0 : Int) ≤ (i : Int) from by omega, if_true, Int.toNat_natCast, hgi]
      simp [Ck.kind]
    refine ⟨_, e1, ⟨sw.wf hw (fun o ho2 => by rw [List.eq_of_mem_replicate ho2]; trivial), sw.alike ?_, sw.length, ?_, ?_, ?_, ?_⟩⟩
    · rw [ex, table_huge (by rw [ex, List.map_cons] at em; injection em) h1, if_neg (by rintro rfl; simp at ht), table_lones fun o ho2 => by rw [List.eq_of_mem_replicate ho2]; exact ⟨by simp [Ck.kind], by simp [Ck.kind]⟩]
      rw [List.map_replicate]
      exact Alike.refl _
    · unfold dropM; rw [at2]
    · unfold keepM; rw [at2]
    · intro q j x hq hne2
      refine hq.same ?_
      rw [gi, if_neg]
      rintro ⟨h2, h3⟩
      by_cases hji : j = i
      · subst hji
        cases hq with
        | run _ _ k' b' t' many' f' ho' hm' hk' ht' => rw [ho] at ho'; injection ho' with ho'; injection ho' with ho'; cases ho'
        | huge _ n' t' f' ho' ht' => exact hne2 ⟨rfl, rfl⟩
      · obtain ⟨o2, ho2, _, _, hk3⟩ := hq.at
        have : (((l.drop i).take n).map One.c)[j - i]? = some o2.c := by
          rw [List.getElem?_map, mid_get (by omega), show i + (j - i) = j by omega, ho2]; rfl
        rw [em] at this
        obtain ⟨d, hd⟩ : ∃ d, j - i = d + 1 := ⟨j - i - 1, by omega⟩
        rw [hd, List.getElem?_cons_succ] at this
        have := List.eq_of_mem_replicate (List.mem_of_getElem? this)
        rw [this] at hk3
        exact hk3 rfl
    · intro j x o' ho' hx
      rw [gi] at ho'
      split at ho'
      · injection ho' with ho'
        subst ho'
        simp at hx
      · rename_i e2
        exact ⟨fun e => e2 (by omega), _, ho', hx⟩
end Go.Am.YtdcppkhobfbpeaaDoor
