/-
  The plain law of IndexApart: what is taken and kept is a block more.
-/
import Derived.Test.YtdcppkhobfbpeaaDoorD27
set_option linter.unusedVariables false
set_option linter.unusedSimpArgs false
namespace Go.Am.YtdcppkhobfbpeaaDoor
open Go Go.Am Go.Proofs

theorem block_big {n k : Nat} (h : clsOf n = some k) : n + 2 ≤ blockOf k := by
  unfold clsOf at h
  split at h
  · injection h with h; subst h; unfold blockOf; simp; omega
  split at h
  · injection h with h; subst h; unfold blockOf; simp; omega
  split at h
  · injection h with h; subst h; unfold blockOf; simp; omega
  · cases h
theorem right_of_sw {l l' A X X' B : List One} (h : Sw l l' A X X' B) : rightAux 0 (l'.map One.c) = true := h.right

/-- What is told of a size that is taken and kept at once. -/
structure KeptOK (l l' l2 : List One) (p : Pl) (n i m w : Nat) : Prop where
  chunk : p.chunk = i
  index : p.index = m
  keep : keepM l' p = some l2
  calm : Calm l2
  right : rightAux 0 (l2.map One.c) = true
  len : l2.length = l.length
  ins : Ins (blocksM (l.map One.c)) ⟨i, m, w⟩ (blocksM (l2.map One.c))
  big : ∀ b ∈ blocksM (l2.map One.c), b.chunk = i → b.index = m → n + 2 ≤ b.words
theorem kept_step {l : List One} {n : Nat} (hc : Calm l) (hr : rightAux 0 (l.map One.c) = true) (hn : n ≤ 4096) :
    ((takeM l n).2.1 = 2 ∧ (takeM l n).2.2 = l) ∨ ((takeM l n).2.1 = 0 ∧ ∃ l2 i m w, KeptOK l (takeM l n).2.2 l2 (takeM l n).1 n i m w) := by
  have hw : Wf l := ⟨hc.ok, hr⟩
  cases took l n with
  | block k i m b t hcl hk hi hm hb ht hrun e =>
    right
    rw [e]
    have h8 := (many_pos k hk).2
    have t0 : t = 0#64 := hc.t0 _ (List.mem_of_getElem? hi)
    subst t0
    have bok := hc.ok _ (List.mem_of_getElem? hi)
    have hil := lt_of_get hi
    obtain ⟨k1, _, _⟩ := small_kept (f := false) hk hil hm hb
    rw [BitVec.zero_or]
    have hci : (l.map One.c)[i]? = some (.run k b) := by rw [List.getElem?_map, hi]; rfl
    have em : (l.set i ⟨.run k (b ||| bitB m), 0#64⟩).map One.c = (l.map One.c).set i (.run k (b ||| bitB m)) := by rw [List.map_set]
    refine ⟨rfl, _, i, m, blockOf k, ⟨rfl, rfl, k1, calm_set hc ⟨hk, or_bit_lt bok.2 hm h8⟩ (by simp [Ck.kind]), ?_, by simp, ?_, ?_⟩⟩
    · rw [em]; exact right_set hr hci ⟨by simp [Ck.kind], by simp [Ck.kind]⟩ ⟨by simp [Ck.kind], by simp [Ck.kind]⟩
    · rw [em, blocks_set (by simpa using hil), blocks_at hci]
      have := (bits_or hm (by omega) hb).map fun j => (⟨i, j, blockOf k⟩ : Bl)
      exact this.ctx _ _
    · intro b' hb' h1 h2
      rw [em] at hb'
      obtain ⟨c, hc1, hc2⟩ := mem_blocks hb'
      rw [h1, List.getElem?_set, if_pos rfl, if_pos (by simpa using hil)] at hc1
      injection hc1 with hc1
      subst hc1
      rcases (mem_blk hc2).2 with ⟨_, e2, _⟩ | ⟨k', bb, e2, hwd, _⟩
      · cases e2
      · injection e2 with e2 _; subst e2; rw [hwd]; exact block_big hcl
  | fresh k i hcl hk hno hi hrow e =>
    right
    rw [e]
    have h8 := many_pos k hk
    obtain ⟨k1, _, _⟩ := small_kept (f := true) (n := 0) (b := 0#64) hk hi h8.1 (by simp)
    rw [BitVec.zero_or] at k1
    obtain ⟨o, ho, hof⟩ := free_at (rowI_true hrow i (Nat.le_refl _) (by omega))
    obtain ⟨hlone, hmay⟩ := free_lone hof
    have hci : (l.map One.c)[i]? = some o.c := by rw [List.getElem?_map, ho]; rfl
    have em : (l.set i ⟨.run k (bitB 0), 0#64⟩).map One.c = (l.map One.c).set i (.run k (bitB 0)) := by rw [List.map_set]
    have hbl : (bitB 0).toNat < 2 ^ manyOf k := by
      have := or_bit_lt (b := 0#64) (n := 0) (m := manyOf k) (by simp; exact Nat.pow_pos (by decide)) h8.1 h8.2
      rwa [BitVec.zero_or] at this
    refine ⟨rfl, _, i, 0, blockOf k, ⟨rfl, rfl, k1, calm_set hc ⟨hk, hbl⟩ (by simp [Ck.kind]), ?_, by simp, ?_, ?_⟩⟩
    · rw [em]; exact right_set hr hci hlone ⟨by simp [Ck.kind], by simp [Ck.kind]⟩
    · rw [em, blocks_set (by simpa using hi), blocks_at hci, bare_may hmay i]
      have := (bits_or (b := 0#64) (m := 0) h8.1 (by omega) (by simp)).map fun j => (⟨i, j, blockOf k⟩ : Bl)
      rw [bitsL_zero, BitVec.zero_or] at this
      exact this.ctx _ _
    · intro b' hb' h1 h2
      rw [em] at hb'
      obtain ⟨c, hc1, hc2⟩ := mem_blocks hb'
      rw [h1, List.getElem?_set, if_pos rfl, if_pos (by simpa using hi)] at hc1
      injection hc1 with hc1
      subst hc1
      rcases (mem_blk hc2).2 with ⟨_, e2, _⟩ | ⟨k', bb, e2, hwd, _⟩
      · cases e2
      · injection e2 with e2 _; subst e2; rw [hwd]; exact block_big hcl
  | large i hcl hi hrow e =>
    right
    rw [e]
    have hm : 1 ≤ chunksOf n ∧ chunksOf n ≤ 8191 ∧ n + 2 ≤ chunksOf n * 32 := by unfold chunksOf; omega
    generalize chunksOf n = many at *
    have hl1 : i < (fillM l i many ⟨.tail, 0#64⟩).length := by rw [fillM_length]; exact hi.2
    have k1 : keepM ((fillM l i many ⟨.tail, 0#64⟩).set i ⟨.huge many, 1#64⟩) ⟨i, 0, -1, many, false⟩ = some ((fillM l i many ⟨.tail, 0#64⟩).set i ⟨.huge many, 0#64⟩) := by
      unfold keepM
      have : atM ((fillM l i many ⟨.tail, 0#64⟩).set i ⟨.huge many, 1#64⟩) ⟨i, 0, -1, many, false⟩ = some (i, 1#64) := by simp [atM, hl1, Ck.kind, Ck.many]
      rw [this]
      simp [hl1, Ck.with]
    have frs : ∀ j, j < many → ∃ o, l[i + j]? = some o ∧ o.free = true := fun j hj => free_at (rowI_true hrow (i + j) (by omega) (by omega))
    have el : ((fillM l i many ⟨.tail, 0#64⟩).set i ⟨.huge many, 0#64⟩).map One.c = (l.map One.c).take i ++ (.huge many :: List.replicate (many - 1) .tail) ++ (l.map One.c).drop (i + many) := by
      rw [fillM_eq hi.1, List.append_assoc, List.set_append_right _ _ (by simp; omega), List.length_take, Nat.min_eq_left (by omega), Nat.sub_self]
      obtain ⟨k, rfl⟩ : ∃ k, many = k + 1 := ⟨many - 1, by omega⟩
      rw [List.replicate_succ, List.cons_append, List.set_cons_zero]
      simp [List.map_take, List.map_drop]
    have hlen : i + many ≤ (l.map One.c).length := by rw [List.length_map]; exact hi.1
    have lones : ∀ j, j < many → ∃ c, (l.map One.c)[i + j]? = some c ∧ c.lone := fun j hj => by
      obtain ⟨o, h1, h2⟩ := frs j hj
      exact ⟨o.c, by rw [List.getElem?_map, h1]; rfl, (free_lone h2).1⟩
    refine ⟨rfl, _, i, 0, many * 32, ⟨rfl, rfl, k1, calm_set (calm_fill hc trivial (by decide)) ⟨hm.1, hm.2.1⟩ (fun _ => by rw [fillM_length]; exact hi.1), ?_, by rw [List.length_set, fillM_length], ?_, ?_⟩⟩
    · rw [el]; exact right_put hr hlen hm.1 lones (right_huge hm.1)
    · rw [el, blocks_put hlen (by simp; omega), blocks_mid hlen]
      have e1 : blocksFrom i (((l.map One.c).drop i).take many) = [] := blocks_bare fun c hc1 => by
        obtain ⟨j, hj⟩ := List.getElem?_of_mem hc1
        have hjn : j < many := by have := lt_of_get hj; simp at this; omega
        rw [mid_get hjn] at hj
        obtain ⟨o, h1, h2⟩ := frs j hjn
        rw [List.getElem?_map, h1] at hj
        injection hj with hj
        rw [← hj]; exact bare_may (free_lone h2).2
      have e2 : blocksFrom i (Ck.huge many :: List.replicate (many - 1) .tail) = [⟨i, 0, many * 32⟩] := by
        unfold blocksFrom
        rw [blocks_bare (X := List.replicate (many - 1) .tail) (fun c hc => by rw [List.eq_of_mem_replicate hc]; exact fun _ => rfl)]
        rfl
      rw [e1, e2]
      exact Ins.one.ctx _ _
    · intro b' hb' h1 h2
      obtain ⟨c, hc1, hc2⟩ := mem_blocks hb'
      rw [h1, List.getElem?_map, List.getElem?_set, if_pos rfl, if_pos hl1] at hc1
      injection hc1 with hc1
      subst hc1
      rcases (mem_blk hc2).2 with ⟨n', e2, _, hwd⟩ | ⟨k', bb, e2, hwd, _⟩
      · injection e2 with e2; subst e2; rw [hwd]; exact hm.2.2
      · cases e2
  | no e hh => left; rw [e]; exact ⟨rfl, rfl⟩
theorem bl_seq (x y : Bl) : seqEq x.cells.toArray y.cells.toArray [(0, true), (1, true), (2, true)] = some (decide (x = y)) := by
  obtain ⟨a, b, c⟩ := x
  obtain ⟨a', b', c'⟩ := y
  simp only [seqEq, Bl.cells, plainEq, List.getElem?_toArray, List.getElem?_cons_zero, List.getElem?_cons_succ, if_true]
  by_cases h1 : a = a'
  · subst h1
    by_cases h2 : b = b'
    · subst h2
      by_cases h3 : c = c'
      · subst h3; simp
      · have : ((c : Int) == (c' : Int)) = false := by simp; omega
        simp [this, h3]
    · have : ((b : Int) == (b' : Int)) = false := by simp; omega
      simp [this, h2]
  · have : ((a : Int) == (a' : Int)) = false := by simp; omega
    simp [this, h1]
end Go.Am.YtdcppkhobfbpeaaDoor
