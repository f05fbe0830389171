/-
  What is freed may be had again: the plain law.
-/
import Derived.Test.YtdcppkhobfbpeaaDoorD13
set_option linter.unusedVariables false
set_option linter.unusedSimpArgs false
namespace Go.Am.YtdcppkhobfbpeaaDoor
open Go Go.Am Go.Proofs

theorem bit_and_self {n : Nat} (hn : n < 64) : bitB n &&& bitB n ≠ 0#64 := by
  intro h
  have := congrArg (fun x : BitVec 64 => x.getLsbD n) h
  simp [bitB, hn] at this
theorem bitB_get {n i : Nat} : (bitB n).getLsbD i = (decide (i < 64) && decide (i = n)) := by
  unfold bitB
  rw [BitVec.getLsbD_shiftLeft]
  by_cases h1 : i < n
  · simp [h1]; omega
  · by_cases h2 : i = n
    · subst h2; simp
    · have : i - n ≠ 0 := by omega
      simp [h1, h2, BitVec.getLsbD_one, this]
theorem and_bit_zero {b : BitVec 64} {n : Nat} (h : b.getLsbD n = false) : b &&& bitB n = 0#64 := by
  apply BitVec.eq_of_getLsbD_eq
  intro i hi
  rw [BitVec.getLsbD_and, bitB_get]
  by_cases e : i = n
  · subst e; simp [h]
  · simp [e]
theorem or_and_not {b : BitVec 64} {n : Nat} (h : b.getLsbD n = false) : (b ||| bitB n) &&& ~~~bitB n = b := by
  apply BitVec.eq_of_getLsbD_eq
  intro i hi
  rw [BitVec.getLsbD_and, BitVec.getLsbD_or, BitVec.getLsbD_not, bitB_get]
  by_cases e : i = n
  · subst e; rw [h]; simp [hi]
  · simp [e, hi]
theorem or_and_bit {b : BitVec 64} {n : Nat} (hn : n < 64) : (b ||| bitB n) &&& bitB n ≠ 0#64 := by
  intro h
  have := congrArg (fun x : BitVec 64 => x.getLsbD n) h
  simp only [BitVec.getLsbD_and, BitVec.getLsbD_or, bitB_get] at this
  simp [hn] at this

theorem runAux_some {k : Nat} : ∀ {l : List One} {i0 i n : Nat}, runAux k i0 l = some (i, n) → i0 ≤ i ∧ ∃ o, l[i - i0]? = some o ∧ roomI o k = n
  | [], i0, i, n, h => by cases h
  | o :: r, i0, i, n, h => by
    unfold runAux at h
    split at h
    · rename_i h0
      injection h with h
      injection h with h1 h2
      subst h1
      refine ⟨Nat.le_refl _, o, by simp, by omega⟩
    · obtain ⟨h1, o', h2, h3⟩ := runAux_some h
      refine ⟨by omega, o', ?_, h3⟩
      rw [show i - i0 = (i - (i0 + 1)) + 1 by omega]
      simpa using h2
theorem runAux_none {k : Nat} : ∀ {l : List One} {i0 : Nat}, runAux k i0 l = none ↔ ∀ o ∈ l, ¬ 0 ≤ roomI o k
  | [], i0 => by simp [runAux]
  | o :: r, i0 => by
    unfold runAux
    split
    · rename_i h0
      exact ⟨fun h => (by cases h), fun h => (h o (by simp) h0).elim⟩
    · rename_i h0
      rw [runAux_none]
      refine ⟨fun h o' ho' => ?_, fun h o' ho' => h o' (by simp [ho'])⟩
      rcases List.mem_cons.1 ho' with e | e
      · subst e; exact h0
      · exact h o' e
theorem runAux_set {k : Nat} {o' : One} {n : Nat} (hr : roomI o' k = n) : ∀ {l : List One} {i0 i : Nat}, (∀ o ∈ l, ¬ 0 ≤ roomI o k) → i < l.length → runAux k i0 (l.set i o') = some (i0 + i, n)
  | [], i0, i, _, hi => by simp at hi
  | o :: r, i0, 0, _, _ => by
    simp only [List.set_cons_zero]
    unfold runAux
    rw [if_pos (by omega), hr]; simp
  | o :: r, i0, i + 1, ho, hi => by
    simp only [List.set_cons_succ]
    unfold runAux
    rw [if_neg (ho o (by simp)), runAux_set hr (fun o' h' => ho o' (by simp [h'])) (by simpa using hi)]
    congr 2
    omega

/-- What the statement asks, of a list that is known. -/
def FreesOK (l : List One) (n : Nat) : Prop :=
  (takeM l n).2.1 = 2 ∨ ((takeM l n).2.1 = 0 ∧ ∃ l2 l3, keepM (takeM l n).2.2 (takeM l n).1 = some l2 ∧ freeM l2 (takeM l n).1 = some l3 ∧ freeM l3 (takeM l n).1 = none ∧
    (takeM l3 n).2.1 = 0 ∧ (takeM l3 n).1.chunk = (takeM l n).1.chunk ∧ (takeM l3 n).1.index = (takeM l n).1.index ∧ (takeM l3 n).1.cls = (takeM l n).1.cls ∧ (takeM l3 n).1.many = (takeM l n).1.many ∧
    l2.length = l.length ∧ l3.length = l.length ∧ (takeM l n).2.2.length = l.length ∧ Fits l2 ∧ Fits l3)

theorem room_run {o : One} {k n : Nat} (h : roomI o k = n) (hk : k < 3) : ∃ b, o.c = .run k b ∧ n < manyOf k ∧ b.getLsbD n = false ∧ o.t.getLsbD n = false := by
  unfold roomI at h
  split at h
  · rename_i k' b hc
    split at h
    · rename_i e
      subst e
      have hm := (many_pos k' hk).2
      rcases firstBit_cases (~~~(b ||| o.t)) (manyOf k') with h1 | ⟨j, h1, h2, h3⟩
      · omega
      · obtain rfl : j = n := by omega
        simp at h3
        exact ⟨b, hc, h1, by simp [h3.2.1], by simp [h3.2.2]⟩
    · omega
  · omega
theorem atM_run {l : List One} {i n k : Nat} {b t : BitVec 64} {f : Bool} (hi : l[i]? = some ⟨.run k b, t⟩) (hn : n < manyOf k) : atM l ⟨i, n, k, 0, f⟩ = some (i, bitB n) := by
  have hc : ¬ (k : Int) = -1 := by omega
  simp [atM, hi, hc, Ck.kind, Ck.cls, hn]
theorem set_same {α : Type} {l : List α} {i : Nat} {x : α} (h : l[i]? = some x) : l.set i x = l := by
  apply List.ext_getElem?
  intro j
  rw [List.getElem?_set]
  split
  · rename_i e; subst e
    split
    · exact h.symm
    · rename_i h2; rw [List.getElem?_eq_none (by omega)]
  · rfl

theorem small_kept {l : List One} {i n k : Nat} {b : BitVec 64} {f : Bool} (hk : k < 3) (hi : i < l.length) (hn : n < manyOf k) (hb : b.getLsbD n = false) :
    keepM (l.set i ⟨.run k b, bitB n⟩) ⟨i, n, k, 0, f⟩ = some (l.set i ⟨.run k (b ||| bitB n), 0#64⟩) ∧
    freeM (l.set i ⟨.run k (b ||| bitB n), 0#64⟩) ⟨i, n, k, 0, f⟩ = some (l.set i ⟨.run k b, 0#64⟩) ∧
    freeM (l.set i ⟨.run k b, 0#64⟩) ⟨i, n, k, 0, f⟩ = none := by
  have h8 := (many_pos k hk).2
  have hc : ¬ (k : Int) = -1 := by omega
  refine ⟨?_, ?_, ?_⟩
  · unfold keepM
    rw [atM_run (b := b) (t := bitB n) (by simp [hi]) hn]
    have h0 : ¬ bitB n = 0#64 := by have := bit_and_self (show n < 64 by omega); simpa using this
    simp [hi, h0, Ck.with]
  · unfold freeM
    rw [atM_run (b := b ||| bitB n) (t := 0#64) (by simp [hi]) hn]
    simp [hi, Ck.kind, Ck.bits, or_and_bit (show n < 64 by omega), Ck.without, or_and_not hb, goneM, hc]
  · unfold freeM
    rw [atM_run (b := b) (t := 0#64) (by simp [hi]) hn]
    simp [hi, Ck.kind, Ck.bits, and_bit_zero hb]
theorem fits_set {l : List One} {i : Nat} {o : One} (hf : Fits l) (ho : o.c.kind = 2 → i + o.c.many ≤ l.length) : Fits (l.set i o) := by
  intro j o' hj hk
  rw [List.length_set]
  rw [List.getElem?_set] at hj
  split at hj
  · rename_i e; subst e
    split at hj
    · injection hj with hj; subst hj; exact ho hk
    · cases hj
  · exact hf j o' hj hk

theorem small_ok {l : List One} {n k : Nat} (hc : clsOf n = some k) (hk : k < 3) (h0 : ∀ o ∈ l, o.t = 0#64) (hf : Fits l) : FreesOK l n := by
  have et : ∀ l', takeM l' n = smallM l' k := fun l' => by unfold takeM; rw [hc]
  unfold FreesOK
  simp only [et]
  have fr : ∀ (i : Nat) (kk : Nat) (b t : BitVec 64), Fits (l.set i ⟨.run kk b, t⟩) := fun i kk b t => fits_set hf (by simp [Ck.kind])
  cases hr : runAux k 0 l with
  | some p =>
    obtain ⟨i, m⟩ := p
    obtain ⟨_, o, ho, hroom⟩ := runAux_some hr
    rw [Nat.sub_zero] at ho
    obtain ⟨b, hb, hm, hbit, _⟩ := room_run hroom hk
    have hil : i < l.length := by
      rcases Nat.lt_or_ge i l.length with h1 | h1
      · exact h1
      · rw [List.getElem?_eq_none h1] at ho; cases ho
    have ht := h0 o (List.mem_of_getElem? ho)
    have ho' : o = ⟨.run k b, 0#64⟩ := by cases o; simp at hb ht; rw [hb, ht]
    have hs : smallM l k = (⟨i, m, k, 0, false⟩, 0, l.set i ⟨.run k b, bitB m⟩) := by
      unfold smallM; simp only [hr, ho]; rw [ho']; simp
    obtain ⟨k1, k2, k3⟩ := small_kept (f := false) hk hil hm hbit
    have hl3 : l.set i ⟨.run k b, 0#64⟩ = l := set_same (by rw [ho, ho'])
    rw [hs]
    refine .inr ⟨rfl, _, _, k1, k2, k3, ?_⟩
    rw [hl3, hs]
    exact ⟨rfl, rfl, rfl, rfl, rfl, by simp, rfl, by simp, fr _ _ _ _, hf⟩
  | none =>
    cases hrow : rowI (rowsOf (frees l)) 1 with
    | none =>
      left
      unfold smallM; simp only [hr, hrow]
    | some i =>
      have hil : i < l.length := by have := (rowI_lt hrow).2; simpa [frees] using this
      have hs : smallM l k = (⟨i, 0, k, 0, true⟩, 0, l.set i ⟨.run k 0#64, bitB 0⟩) := by
        unfold smallM; simp only [hr, hrow]; rfl
      obtain ⟨k1, k2, k3⟩ := small_kept (f := true) (n := 0) (b := 0#64) hk hil (many_pos k hk).1 (by simp)
      have hroom : roomI ⟨.run k 0#64, 0#64⟩ k = ((0 : Nat) : Int) := by
        have : k = 0 ∨ k = 1 ∨ k = 2 := by omega
        rcases this with rfl | rfl | rfl <;> rfl
      have hr3 := runAux_set (i0 := 0) hroom (runAux_none.1 hr) hil
      have hs3 : smallM (l.set i ⟨.run k 0#64, 0#64⟩) k = (⟨i, 0, k, 0, false⟩, 0, (l.set i ⟨.run k 0#64, 0#64⟩).set i ⟨.run k 0#64, bitB 0⟩) := by
        unfold smallM
        simp only [hr3, Nat.zero_add]
        simp [hil]
      rw [hs]
      refine .inr ⟨rfl, _, _, k1, k2, k3, ?_⟩
      rw [hs3]
      exact ⟨rfl, rfl, rfl, rfl, rfl, by simp, by simp, by simp, fr _ _ _ _, fr _ _ _ _⟩
theorem fillM_get {l : List One} {i n : Nat} {o : One} (j : Nat) : (fillM l i n o)[j]? = if i ≤ j ∧ j < i + n then (if j < l.length then some o else none) else l[j]? := by
  induction n with
  | zero => rw [if_neg (by omega)]; rfl
  | succ n ih =>
    rw [fillM_succ, List.getElem?_set, fillM_length, ih]
    by_cases h1 : i + n = j
    · subst h1
      rw [if_pos rfl, if_pos (show i ≤ i + n ∧ i + n < i + (n + 1) by omega)]
    · rw [if_neg h1]
      by_cases h2 : i ≤ j ∧ j < i + n
      · rw [if_pos h2, if_pos (show i ≤ j ∧ j < i + (n + 1) by omega)]
      · rw [if_neg h2, if_neg (show ¬ (i ≤ j ∧ j < i + (n + 1)) by omega)]
theorem rowsAux_true : ∀ (fs : List Bool) (i m : Nat), m ≤ i → ∀ p ∈ rowsAux i m fs, ∀ j, p.1 ≤ j → j < p.1 + p.2 → i ≤ j → fs[j - i]? = some true
  | [], i, m, hm, p, hp, j, h1, h2, h3 => by
    unfold rowsAux at hp
    split at hp
    · simp at hp
    · simp at hp; subst hp; simp at h1 h2; omega
  | true :: r, i, m, hm, p, hp, j, h1, h2, h3 => by
    unfold rowsAux at hp
    by_cases e : j = i
    · subst e; simp
    · have := rowsAux_true r (i + 1) (m + 1) (by omega) p hp j h1 h2 (by omega)
      rw [show j - i = (j - (i + 1)) + 1 by omega]
      simpa using this
  | false :: r, i, m, hm, p, hp, j, h1, h2, h3 => by
    unfold rowsAux at hp
    have sub : ∀ p ∈ rowsAux (i + 1) 0 r, i + 1 ≤ p.1 := fun p hp => rowsAux_from r (i + 1) 0 (by omega) p hp
    have main : p ∈ rowsAux (i + 1) 0 r → (false :: r)[j - i]? = some true := fun hp => by
      have h4 := sub p hp
      have := rowsAux_true r (i + 1) 0 (by omega) p hp j h1 h2 (by omega)
      rw [show j - i = (j - (i + 1)) + 1 by omega]
      simpa using this
    split at hp
    · exact main hp
    · rcases List.mem_cons.1 hp with e | e
      · subst e; simp at h1 h2; omega
      · exact main e
where
  rowsAux_from : ∀ (fs : List Bool) (i m : Nat), m ≤ i → ∀ p ∈ rowsAux i m fs, i - m ≤ p.1
  | [], i, m, hm, p, hp => by
    unfold rowsAux at hp
    split at hp
    · simp at hp
    · simp at hp; subst hp; simp
  | true :: r, i, m, hm, p, hp => by
    unfold rowsAux at hp
    have := rowsAux_from r (i + 1) (m + 1) (by omega) p hp
    omega
  | false :: r, i, m, hm, p, hp => by
    unfold rowsAux at hp
    split at hp
    · have := rowsAux_from r (i + 1) 0 (by omega) p hp; omega
    · rcases List.mem_cons.1 hp with e | e
      · subst e; simp
      · have := rowsAux_from r (i + 1) 0 (by omega) p e; omega
theorem rowI_true {fs : List Bool} {many i : Nat} (h : rowI (rowsOf fs) many = some i) (j : Nat) (h1 : i ≤ j) (h2 : j < i + many) : fs[j]? = some true := by
  unfold rowI at h
  cases hf : (rowsOf fs).find? (fun p => decide (many ≤ p.2)) with
  | none => rw [hf] at h; cases h
  | some p =>
    rw [hf] at h
    simp at h
    have h3 := List.find?_some hf
    simp at h3
    have := rowsAux_true fs 0 0 (Nat.le_refl _) p (List.mem_of_find?_eq_some hf) j (by omega) (by omega) (by omega)
    simpa using this
theorem fits_fill {l : List One} {i n : Nat} {o : One} (hf : Fits l) (ho : o.c.kind ≠ 2) : Fits (fillM l i n o) := by
  induction n with
  | zero => exact hf
  | succ n ih => rw [fillM_succ]; exact fits_set ih (fun h => (ho h).elim)

theorem large_ok {l : List One} {n : Nat} (hc : clsOf n = none) (hm : 1 ≤ chunksOf n) (hf : Fits l) : FreesOK l n := by
  have et : ∀ l', takeM l' n = largeM l' (chunksOf n) := fun l' => by unfold takeM; rw [hc]
  unfold FreesOK
  simp only [et]
  generalize chunksOf n = many at *
  cases hrow : rowI (rowsOf (frees l)) many with
  | none => left; unfold largeM; simp only [hrow]
  | some i =>
    have hlt := rowI_lt hrow
    rw [show (frees l).length = l.length by simp [frees]] at hlt
    have hs : ∀ l', rowI (rowsOf (frees l')) many = some i → largeM l' many = (⟨i, 0, -1, many, false⟩, 0, (fillM l' i many ⟨.tail, 0#64⟩).set i ⟨.huge many, 1#64⟩) := fun l' h' => by unfold largeM; simp only [h']
    have hl1 : i < (fillM l i many ⟨.tail, 0#64⟩).length := by rw [fillM_length]; exact hlt.2
    have at2 : ∀ (l' : List One) (t : BitVec 64), i < l'.length → atM (l'.set i ⟨.huge many, t⟩) ⟨i, 0, -1, many, false⟩ = some (i, 1#64) := fun l' t h' => by
      simp [atM, h', Ck.kind, Ck.many]
    have ft : Fits (fillM l i many ⟨.tail, 0#64⟩) := fits_fill hf (by decide)
    have fh : Fits ((fillM l i many ⟨.tail, 0#64⟩).set i ⟨.huge many, 0#64⟩) := fits_set ft (fun _ => by rw [fillM_length]; exact hlt.1)
    have k1 : keepM ((fillM l i many ⟨.tail, 0#64⟩).set i ⟨.huge many, 1#64⟩) ⟨i, 0, -1, many, false⟩ = some ((fillM l i many ⟨.tail, 0#64⟩).set i ⟨.huge many, 0#64⟩) := by
      unfold keepM
      rw [at2 _ _ hl1]
      simp [hl1, Ck.with]
    have k2 : freeM ((fillM l i many ⟨.tail, 0#64⟩).set i ⟨.huge many, 0#64⟩) ⟨i, 0, -1, many, false⟩ = some (fillM ((fillM l i many ⟨.tail, 0#64⟩).set i ⟨.huge many, 0#64⟩) i many ⟨.free, 0#64⟩) := by
      unfold freeM
      rw [at2 _ _ hl1]
      simp [hl1, Ck.without, Ck.kind, goneM]
    have hget : ∀ j, (fillM ((fillM l i many ⟨.tail, 0#64⟩).set i ⟨.huge many, 0#64⟩) i many ⟨.free, 0#64⟩)[j]? = if i ≤ j ∧ j < i + many then some ⟨.free, 0#64⟩ else l[j]? := fun j => by
      rw [fillM_get, List.length_set, fillM_length]
      by_cases h1 : i ≤ j ∧ j < i + many
      · rw [if_pos h1, if_pos h1, if_pos (by omega)]
      · rw [if_neg h1, if_neg h1, List.getElem?_set, if_neg (by omega), fillM_get, if_neg h1]
    have k3 : freeM (fillM ((fillM l i many ⟨.tail, 0#64⟩).set i ⟨.huge many, 0#64⟩) i many ⟨.free, 0#64⟩) ⟨i, 0, -1, many, false⟩ = none := by
      have h1 := hget i
      rw [if_pos (by omega)] at h1
      unfold freeM
      have : atM (fillM ((fillM l i many ⟨.tail, 0#64⟩).set i ⟨.huge many, 0#64⟩) i many ⟨.free, 0#64⟩) ⟨i, 0, -1, many, false⟩ = none := by
        simp [atM, h1, Ck.kind]
      rw [this]
    have hfr : frees (fillM ((fillM l i many ⟨.tail, 0#64⟩).set i ⟨.huge many, 0#64⟩) i many ⟨.free, 0#64⟩) = frees l := by
      apply List.ext_getElem?
      intro j
      unfold frees
      rw [List.getElem?_map, hget, List.getElem?_map]
      by_cases h1 : i ≤ j ∧ j < i + many
      · rw [if_pos h1]
        have h2 := rowI_true hrow j h1.1 h1.2
        unfold frees at h2
        rw [List.getElem?_map] at h2
        rw [h2]; rfl
      · rw [if_neg h1]
    rw [hs l hrow]
    refine .inr ⟨rfl, _, _, k1, k2, k3, ?_⟩
    rw [hs _ (by rw [hfr]; exact hrow)]
    exact ⟨rfl, rfl, rfl, rfl, rfl, by rw [List.length_set, fillM_length], by rw [fillM_length, List.length_set, fillM_length], by rw [List.length_set, fillM_length], fh, fits_fill fh (by decide)⟩
end Go.Am.YtdcppkhobfbpeaaDoor
