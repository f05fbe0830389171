/-
  What taking comes to, case by case; keeping at once; whether there is room.
-/
import Derived.Test.YtdcppkhobfbpeaaDoorD17
set_option linter.unusedVariables false
set_option linter.unusedSimpArgs false
namespace Go.Am.YtdcppkhobfbpeaaDoor
open Go Go.Am Go.Proofs

theorem lt_of_get {α : Type} {l : List α} {i : Nat} {x : α} (h : l[i]? = some x) : i < l.length := by
  rcases Nat.lt_or_ge i l.length with h1 | h1
  · exact h1
  · rw [List.getElem?_eq_none h1] at h; cases h
theorem clsOf_lt {n k : Nat} (h : clsOf n = some k) : k < 3 := by
  unfold clsOf at h; repeat (first | (injection h with h; omega) | cases h | split at h)

/-- What taking comes to. -/
inductive Took (l : List One) (n : Nat) : Prop
  | block (k i m : Nat) (b t : BitVec 64) (hc : clsOf n = some k) (hk : k < 3) (hi : l[i]? = some ⟨.run k b, t⟩) (hm : m < manyOf k) (hb : b.getLsbD m = false) (ht : t.getLsbD m = false) (hrun : runAux k 0 l = some (i, m))
      (e : takeM l n = (⟨i, m, k, 0, false⟩, 0, l.set i ⟨.run k b, t ||| bitB m⟩))
  | fresh (k i : Nat) (hc : clsOf n = some k) (hk : k < 3) (hno : ∀ o ∈ l, ¬ 0 ≤ roomI o k) (hi : i < l.length) (hr : rowI (rowsOf (frees l)) 1 = some i) (e : takeM l n = (⟨i, 0, k, 0, true⟩, 0, l.set i ⟨.run k 0#64, bitB 0⟩))
  | large (i : Nat) (hc : clsOf n = none) (hi : i + chunksOf n ≤ l.length ∧ i < l.length) (hr : rowI (rowsOf (frees l)) (chunksOf n) = some i)
      (e : takeM l n = (⟨i, 0, -1, chunksOf n, false⟩, 0, (fillM l i (chunksOf n) ⟨.tail, 0#64⟩).set i ⟨.huge (chunksOf n), 1#64⟩))
  | no (e : takeM l n = (⟨0, 0, 0, 0, false⟩, 2, l)) (h : (∃ k, clsOf n = some k ∧ (∀ o ∈ l, ¬ 0 ≤ roomI o k) ∧ rowI (rowsOf (frees l)) 1 = none) ∨ (clsOf n = none ∧ rowI (rowsOf (frees l)) (chunksOf n) = none))
theorem took (l : List One) (n : Nat) : Took l n := by
  cases hc : clsOf n with
  | some k =>
    have hk := clsOf_lt hc
    have et : takeM l n = smallM l k := by unfold takeM; rw [hc]
    cases hr : runAux k 0 l with
    | some p =>
      obtain ⟨i, m⟩ := p
      obtain ⟨_, o, ho, hroom⟩ := runAux_some hr
      rw [Nat.sub_zero] at ho
      obtain ⟨b, hb, hm, hbit, htb⟩ := room_run hroom hk
      obtain ⟨c, t⟩ := o
      simp only at hb htb
      subst hb
      exact .block k i m b t hc hk ho hm hbit htb hr (by rw [et]; unfold smallM; simp only [hr, ho])
    | none =>
      have hno := runAux_none.1 hr
      cases hrow : rowI (rowsOf (frees l)) 1 with
      | some i =>
        have hil : i < l.length := by have := (rowI_lt hrow).2; simpa [frees] using this
        exact .fresh k i hc hk hno hil hrow (by rw [et]; unfold smallM; simp only [hr, hrow]; rfl)
      | none => exact .no (by rw [et]; unfold smallM; simp only [hr, hrow]) (.inl ⟨k, hc, hno, hrow⟩)
  | none =>
    have et : takeM l n = largeM l (chunksOf n) := by unfold takeM; rw [hc]
    cases hrow : rowI (rowsOf (frees l)) (chunksOf n) with
    | some i =>
      have hlt := rowI_lt hrow
      rw [show (frees l).length = l.length by simp [frees]] at hlt
      exact .large i hc hlt hrow (by rw [et]; unfold largeM; simp only [hrow])
    | none => exact .no (by rw [et]; unfold largeM; simp only [hrow]) (.inr ⟨hc, hrow⟩)

/-- Nothing is taken. -/
structure Calm (l : List One) : Prop where
  t0 : ∀ o ∈ l, o.t = 0#64
  ok : ∀ o ∈ l, o.c.ok
  fits : Fits l
theorem or_bit_lt {b : BitVec 64} {n m : Nat} (hb : b.toNat < 2 ^ m) (hn : n < m) (hm : m ≤ 8) : (b ||| bitB n).toNat < 2 ^ m := by
  rw [BitVec.toNat_or]
  have h1 : (bitB n).toNat < 2 ^ m := by
    unfold bitB
    rw [BitVec.toNat_shiftLeft, BitVec.toNat_ofNat, Nat.one_mod, Nat.shiftLeft_eq, Nat.one_mul] <;> try decide
    rw [Nat.mod_eq_of_lt (Nat.lt_of_lt_of_le (Nat.pow_lt_pow_right (by decide) hn) (Nat.pow_le_pow_right (by decide) (by omega)))]
    exact Nat.pow_lt_pow_right (by decide) hn
  exact Nat.or_lt_two_pow hb h1
theorem calm_set {l : List One} {i : Nat} {c : Ck} (h : Calm l) (hc : c.ok) (hf : c.kind = 2 → i + c.many ≤ l.length) : Calm (l.set i ⟨c, 0#64⟩) := by
  refine ⟨fun o ho => ?_, fun o ho => ?_, fits_set h.fits hf⟩
  · rcases List.mem_or_eq_of_mem_set ho with h1 | h1
    · exact h.t0 o h1
    · rw [h1]
  · rcases List.mem_or_eq_of_mem_set ho with h1 | h1
    · exact h.ok o h1
    · rw [h1]; exact hc
theorem calm_fill {l : List One} {i n : Nat} {c : Ck} (h : Calm l) (hc : c.ok) (hf : c.kind ≠ 2) : Calm (fillM l i n ⟨c, 0#64⟩) := by
  induction n with
  | zero => exact h
  | succ n ih => rw [fillM_succ]; exact calm_set ih hc (fun e => (hf e).elim)

/-- What is kept at once. -/
theorem kept {l : List One} {n : Nat} (h : Calm l) (hn : n ≤ 4096) : ((takeM l n).2.1 = 0 ∧ ∃ l2, keepM (takeM l n).2.2 (takeM l n).1 = some l2 ∧ Calm l2 ∧ l2.length = l.length ∧ (takeM l n).2.2.length = l.length) ∨ ((takeM l n).2.1 = 2 ∧ (takeM l n).2.2 = l) := by
  cases took l n with
  | block k i m b t hc hk hi hm hb ht hrun e =>
    left
    rw [e]
    have h8 := (many_pos k hk).2
    have t0 : t = 0#64 := h.t0 _ (List.mem_of_getElem? hi)
    subst t0
    have bok := h.ok _ (List.mem_of_getElem? hi)
    obtain ⟨k1, _, _⟩ := small_kept (f := false) hk (lt_of_get hi) hm hb
    rw [BitVec.zero_or]
    exact ⟨rfl, _, k1, calm_set h ⟨hk, or_bit_lt bok.2 hm h8⟩ (by simp [Ck.kind]), by simp, by simp⟩
  | fresh k i hc hk hno hi hr e =>
    left
    rw [e]
    have h8 := many_pos k hk
    obtain ⟨k1, _, _⟩ := small_kept (f := true) (n := 0) (b := 0#64) hk hi h8.1 (by simp)
    exact ⟨rfl, _, k1, calm_set h ⟨hk, or_bit_lt (by simp; exact Nat.pow_pos (by decide)) h8.1 h8.2⟩ (by simp [Ck.kind]), by simp, by simp⟩
  | large i hc hi hr e =>
    left
    rw [e]
    have hm : 1 ≤ chunksOf n ∧ chunksOf n ≤ 8191 := by unfold chunksOf; omega
    generalize chunksOf n = many at *
    have hl1 : i < (fillM l i many ⟨.tail, 0#64⟩).length := by rw [fillM_length]; exact hi.2
    have k1 : keepM ((fillM l i many ⟨.tail, 0#64⟩).set i ⟨.huge many, 1#64⟩) ⟨i, 0, -1, many, false⟩ = some ((fillM l i many ⟨.tail, 0#64⟩).set i ⟨.huge many, 0#64⟩) := by
      unfold keepM
      have : atM ((fillM l i many ⟨.tail, 0#64⟩).set i ⟨.huge many, 1#64⟩) ⟨i, 0, -1, many, false⟩ = some (i, 1#64) := by simp [atM, hl1, Ck.kind, Ck.many]
      rw [this]
      simp [hl1, Ck.with]
    refine ⟨rfl, _, k1, calm_set (calm_fill h trivial (by decide)) hm (fun _ => by rw [fillM_length]; exact hi.1), by rw [List.length_set, fillM_length], by rw [List.length_set, fillM_length]⟩
  | no e hh => right; rw [e]; exact ⟨rfl, rfl⟩

/-- Whether a block of a run is free, told by its bits. -/
theorem full_iff {k : Nat} {b : BitVec 64} (hk : k < 3) (hb : b.toNat < 2 ^ manyOf k) : ¬ 0 ≤ roomI ⟨.run k b, 0#64⟩ k ↔ b = 1#64 <<< manyOf k - 1#64 := by
  have hm := many_pos k hk
  have e1 : 1#64 <<< manyOf k - 1#64 = maskB (manyOf k) := by
    have : k = 0 ∨ k = 1 ∨ k = 2 := by omega
    rcases this with rfl | rfl | rfl <;> decide
  rw [e1]
  have e2 : roomI ⟨.run k b, 0#64⟩ k = firstBit (~~~b) (manyOf k) := by simp [roomI]
  rw [e2]
  constructor
  · intro h
    rcases firstBit_cases (~~~b) (manyOf k) with h1 | ⟨j, _, h2, _⟩
    · apply BitVec.eq_of_getLsbD_eq
      intro i hi
      rw [maskB_bit (by omega)]
      by_cases him : i < manyOf k
      · rw [decide_eq_true him]
        unfold firstBit at h1
        cases hf : (List.range (manyOf k)).find? (fun j => (~~~b).getLsbD j) with
        | some j => rw [hf] at h1; simp at h1
        | none =>
          have := List.find?_eq_none.1 hf i (List.mem_range.2 him)
          simp [hi] at this
          exact this
      · rw [decide_eq_false him]
        exact Nat.testBit_lt_two_pow (Nat.lt_of_lt_of_le hb (Nat.pow_le_pow_right (by decide) (by omega)))
    · omega
  · rintro rfl h
    rcases firstBit_cases (~~~maskB (manyOf k)) (manyOf k) with h1 | ⟨j, hj, h2, h3⟩
    · omega
    · rw [BitVec.getLsbD_not, maskB_bit (by omega), decide_eq_true hj] at h3
      simp at h3

theorem calm_frees {l : List One} (h : Calm l) : frees l = (l.map One.c).map Ck.may := by
  unfold frees
  rw [List.map_map]
  refine List.map_congr_left fun o ho => ?_
  have := h.t0 o ho
  obtain ⟨c, t⟩ := o
  simp only at this
  subst this
  cases c <;> simp [One.free, Ck.may]
theorem tableAux_calm : ∀ {l : List One}, (∀ o ∈ l, o.t = 0#64) → tableAux 0 l = l.map One.c
  | [], _ => rfl
  | o :: r, h => by
    have h0 := h o (by simp)
    have e : leftOf 0 o = 0 := by unfold leftOf; rw [if_neg (by simp [h0])]
    unfold tableAux
    rw [e, if_neg (by decide), tableAux_calm fun o' ho' => h o' (by simp [ho'])]
    rfl
theorem calm_table {l : List One} (h : Calm l) : tableM l = l.map One.c := tableAux_calm h.t0
theorem clsI_of {n k : Nat} (h : clsOf n = some k) : clsI n = k := by unfold clsI; rw [h]
theorem clsI_none {n : Nat} (h : clsOf n = none) : clsI n = -1 := by unfold clsI; rw [h]
theorem cls_le {n k : Nat} (h : clsOf n = some k) : n ≤ 14 := by
  unfold clsOf at h; repeat (first | omega | cases h | split at h)
theorem cls_gt {n : Nat} (h : clsOf n = none) : ¬ n ≤ 14 := by
  unfold clsOf at h; repeat (first | omega | cases h | split at h)

/-- Whether a row, or a run, would do. -/
def rowB (n : Nat) (p : Nat × Nat) : Bool := decide (max 1 (chunksR n) ≤ p.2)
def roomB (n : Nat) (c : Ck) : Bool := decide (0 ≤ clsI n ∧ c.kind = 1 ∧ (c.cls : Int) = clsI n ∧ c.bits ≠ 1#64 <<< manyOf c.cls - 1#64)
theorem rowI_none {rows : List (Nat × Nat)} {many : Nat} : rowI rows many = none ↔ ∀ p ∈ rows, ¬ many ≤ p.2 := by
  unfold rowI
  rw [Option.map_eq_none_iff, List.find?_eq_none]
  simp
theorem rows_any {rows : List (Nat × Nat)} {n : Nat} : rows.any (rowB n) = (rowI rows (max 1 (chunksR n))).isSome := by
  cases h : rowI rows (max 1 (chunksR n)) with
  | none =>
    have := rowI_none.1 h
    rw [Option.isSome_none, List.any_eq_false]
    intro p hp
    unfold rowB
    simpa using this p hp
  | some i =>
    rw [Option.isSome_some, List.any_eq_true]
    have : ¬ ∀ p ∈ rows, ¬ max 1 (chunksR n) ≤ p.2 := fun e => by rw [rowI_none.2 e] at h; cases h
    simp only [Classical.not_forall, Classical.not_not] at this
    obtain ⟨p, hp, h1⟩ := this
    exact ⟨p, hp, decide_eq_true h1⟩
theorem runs_any {l : List One} {n k : Nat} (h : Calm l) (hc : clsOf n = some k) : (l.map One.c).any (roomB n) = true ↔ ∃ o ∈ l, 0 ≤ roomI o k := by
  have hk := clsOf_lt hc
  rw [List.any_map, List.any_eq_true]
  refine exists_congr fun o => and_congr_right fun ho => ?_
  have t0 := h.t0 o ho
  have ok := h.ok o ho
  obtain ⟨c, t⟩ := o
  simp only at t0 ok
  subst t0
  show roomB n c = true ↔ _
  unfold roomB
  rw [decide_eq_true_iff, clsI_of hc]
  cases c with
  | run k' b =>
    by_cases e : k' = k
    · subst e
      have := full_iff hk ok.2
      constructor
      · rintro ⟨_, _, _, h4⟩
        exact Decidable.not_not.1 fun h5 => h4 (this.1 h5)
      · intro h5
        exact ⟨by omega, rfl, rfl, fun h4 => this.2 h4 h5⟩
    · have : roomI ⟨.run k' b, 0#64⟩ k = -1 := by simp [roomI, e]
      rw [this]
      simp [Ck.cls, e]
      intro _ e2; exact (e (by omega)).elim
  | _ => simp [roomI, Ck.kind]
theorem would {l : List One} {n : Nat} (h : Calm l) : ((rowsOf ((l.map One.c).map Ck.may)).any (rowB n) || (l.map One.c).any (roomB n)) = decide ((takeM l n).2.1 = 0) := by
  rw [← calm_frees h, rows_any]
  cases took l n with
  | block k i m b t hc hk hi hm hb ht hrun e =>
    rw [e]
    have : (l.map One.c).any (roomB n) = true := (runs_any h hc).2 ⟨_, List.mem_of_getElem? hi, by
      obtain ⟨_, o, ho, hroom⟩ := runAux_some hrun
      rw [Nat.sub_zero, hi] at ho
      injection ho with ho
      rw [ho, hroom]; omega⟩
    rw [this]; simp
  | fresh k i hc hk hno hi hr e =>
    rw [e]
    have : chunksR n = 0 := if_pos (cls_le hc)
    rw [this, show max 1 0 = 1 from rfl, hr]; simp
  | large i hc hi hr e =>
    rw [e]
    have : chunksR n = chunksOf n := if_neg (cls_gt hc)
    have h1 : max 1 (chunksOf n) = chunksOf n := by have : 1 ≤ chunksOf n := by unfold chunksOf; omega
                                                    omega
    rw [this, h1, hr]; simp
  | no e hh =>
    rw [e]
    rcases hh with ⟨k, hc, hno, hr⟩ | ⟨hc, hr⟩
    · have : chunksR n = 0 := if_pos (cls_le hc)
      rw [this, show max 1 0 = 1 from rfl, hr]
      have : ¬ (l.map One.c).any (roomB n) = true := fun h5 => by
        obtain ⟨o, ho, h6⟩ := (runs_any h hc).1 h5
        exact hno o ho h6
      simp only [Bool.not_eq_true] at this
      rw [this]; simp
    · have : chunksR n = chunksOf n := if_neg (cls_gt hc)
      have h1 : max 1 (chunksOf n) = chunksOf n := by have : 1 ≤ chunksOf n := by unfold chunksOf; omega
                                                      omega
      rw [this, h1, hr]
      have : (l.map One.c).any (roomB n) = false := by
        rw [List.any_eq_false]
        intro c _
        unfold roomB
        rw [clsI_none hc]; simp
      rw [this]; simp
end Go.Am.YtdcppkhobfbpeaaDoor
