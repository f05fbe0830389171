/-
  The plain law of IndexTable: what is there is live.
-/
import Derived.Test.YtdcppkhobfbpeaaDoorD22
import Derived.Test.YtdcppkhobfbpeaaDoorD19
set_option linter.unusedVariables false
set_option linter.unusedSimpArgs false
namespace Go.Am.YtdcppkhobfbpeaaDoor
open Go Go.Am Go.Proofs

theorem ck_kinds {c : Ck} (h : c.kind ≠ 2) (h3 : c.kind ≠ 3) : c.lone := ⟨h, h3⟩
theorem made_kind (n : Nat) : (madeC n).kind ≠ 3 := by
  unfold madeC
  split
  · simp [Ck.kind]
  split
  · simp [Ck.kind]
  split
  · simp [Ck.kind]
  split
  · simp [Ck.kind]
  · simp [Ck.kind]
theorem made_right : ∀ (ns : List Nat) (out : List Ck), rightAux 0 out = true → rightAux 0 (madeAux out ns) = true
  | [], out, h => h
  | n :: r, out, h => by
    unfold madeAux
    split
    · refine made_right r _ ?_
      rw [right_app h]
      have hok := fitC_ok (len := out.length) (madeC_ok n)
      have h3 : (fitC out.length (madeC n)).kind ≠ 3 := by
        unfold fitC
        split
        · decide
        · exact made_kind n
      generalize fitC out.length (madeC n) = c at *
      by_cases h2 : c.kind = 2
      · obtain ⟨m, e⟩ := Ck.kind_huge h2
        subst e
        exact right_huge hok.1
      · unfold tailsOf
        rw [if_neg h2, right_lone ⟨h2, h3⟩]; rfl
    · exact h
theorem madeM_right (ns : List Nat) : rightAux 0 (madeM ns) = true := made_right ns [] rfl

theorem fillM_eq {l : List One} {i n : Nat} {o : One} (h : i + n ≤ l.length) : fillM l i n o = l.take i ++ List.replicate n o ++ l.drop (i + n) := by
  induction n with
  | zero => simp [fillM]
  | succ n ih =>
    rw [fillM_succ, ih (by omega), List.drop_eq_getElem_cons (show i + n < l.length by omega)]
    have hl : (l.take i ++ List.replicate n o).length = i + n := by simp; omega
    rw [List.set_append_right _ _ (by omega), hl, Nat.sub_self, List.set_cons_zero, List.replicate_succ', List.append_assoc, List.append_assoc, List.append_assoc, List.singleton_append]
    rfl

/-- The place of a block that is live. -/
def plB (b : Bl) : Pl := if 32 ≤ b.words then ⟨b.chunk, b.index, -1, b.words / 32, false⟩ else ⟨b.chunk, b.index, if b.words = 16 then 2 else if b.words = 8 then 1 else 0, 0, false⟩
theorem block_lt (k : Nat) : blockOf k < 32 := by unfold blockOf; repeat (first | omega | split)
theorem plB_run {b : Bl} {k : Nat} (h : b.words = blockOf k) (hk : k < 3) : plB b = ⟨b.chunk, b.index, k, 0, false⟩ := by
  have := block_lt k
  unfold plB
  rw [if_neg (by omega), h]
  have : k = 0 ∨ k = 1 ∨ k = 2 := by omega
  rcases this with rfl | rfl | rfl <;> rfl
theorem plB_huge {b : Bl} {n : Nat} (h : b.words = n * 32) (h1 : 1 ≤ n) : plB b = ⟨b.chunk, b.index, -1, n, false⟩ := by
  unfold plB
  rw [if_pos (by omega), h]
  simp only [Pl.mk.injEq]
  refine ⟨trivial, trivial, trivial, ?_, trivial⟩
  omega
theorem news_c (cs : List Ck) : (news cs).map One.c = cs := by unfold news; rw [List.map_map]; exact List.map_id cs
theorem news_get {cs : List Ck} {i : Nat} {c : Ck} (h : cs[i]? = some c) : (news cs)[i]? = some ⟨c, 0#64⟩ := by unfold news; rw [List.getElem?_map, h]; rfl
theorem atM_huge {l : List One} {i n : Nat} {t : BitVec 64} {f : Bool} (h : l[i]? = some ⟨.huge n, t⟩) : atM l ⟨i, 0, -1, n, f⟩ = some (i, 1#64) := by
  simp [atM, h, Ck.kind, Ck.many]

theorem and_not_bit {b : BitVec 64} {n : Nat} : (b &&& ~~~bitB n) &&& bitB n = 0#64 := by
  apply BitVec.eq_of_getLsbD_eq
  intro i hi
  simp only [BitVec.getLsbD_and, BitVec.getLsbD_not, bitB_get]
  by_cases e : i = n <;> simp [e]
theorem and_bit_ne {b : BitVec 64} {n : Nat} (hn : n < 64) (h : b.getLsbD n = true) : b &&& bitB n ≠ 0#64 := by
  intro e
  have := congrArg (fun x : BitVec 64 => x.getLsbD n) e
  simp only [BitVec.getLsbD_and, bitB_get, h] at this
  simp [hn] at this
theorem and_lt {b x : BitVec 64} {m : Nat} (hb : b.toNat < 2 ^ m) : (b &&& x).toNat < 2 ^ m := by
  rw [BitVec.toNat_and]; exact Nat.lt_of_le_of_lt Nat.and_le_left hb

theorem calm_drop {l : List One} (h : Calm l) (p : Pl) : dropM l p = none ∧ keepM l p = none := by
  unfold dropM keepM
  cases hat : atM l p with
  | none => exact ⟨rfl, rfl⟩
  | some q =>
    obtain ⟨i, b⟩ := q
    obtain ⟨o, ho, _⟩ := atM_some hat
    have t0 := h.t0 o (List.mem_of_getElem? ho)
    simp only [ho, t0]
    rw [if_pos (by simp), if_pos (by simp)]
    exact ⟨rfl, rfl⟩

/-- What is live may be freed, once, and is told no more. -/
theorem table_ok {l : List One} {cs : List Ck} (hl : l.map One.c = cs) (hc : Calm l) (hr : rightAux 0 cs = true) {b : Bl} (hb : b ∈ blocksM cs) :
    ∃ l3, freeM l (plB b) = some l3 ∧ freeM l3 (plB b) = none ∧ Calm l3 ∧ l3.length = l.length ∧ (blocksM (l3.map One.c)).length + 1 = (blocksM cs).length := by
  obtain ⟨c, hci, hbk⟩ := mem_blocks hb
  have hli : l[b.chunk]? = some ⟨c, 0#64⟩ := by
    rw [← hl, List.getElem?_map] at hci
    cases ho : l[b.chunk]? with
    | none => rw [ho] at hci; cases hci
    | some o =>
      rw [ho] at hci
      have t0 := hc.t0 o (List.mem_of_getElem? ho)
      obtain ⟨c', t⟩ := o
      simp only at t0
      injection hci with hci
      simp only at hci
      rw [t0, hci]
  have hil := lt_of_get hli
  have hok := hc.ok _ (List.mem_of_getElem? hli)
  obtain ⟨_, hcase⟩ := mem_blk hbk
  rcases hcase with ⟨n, rfl, hi0, hw⟩ | ⟨k, bb, rfl, hw, him, hbit⟩
  · have h1 : 1 ≤ n := hok.1
    rw [plB_huge hw h1, hi0]
    generalize b.chunk = i at *
    obtain ⟨ra, rl, rm, rd⟩ := huge_inv hr hci h1
    have hlen : l.length = cs.length := by rw [← hl, List.length_map]
    have e1 : freeM l ⟨i, ((0 : Nat) : Int), -1, n, false⟩ = some (fillM l i n ⟨.free, 0#64⟩) := by
      unfold freeM
      rw [show ((0 : Nat) : Int) = 0 from rfl, atM_huge hli]
      simp only [hli]
      rw [if_neg (by simp [Ck.kind])]
      simp [Ck.without, goneM, set_same hli]
    refine ⟨_, e1, ?_, calm_fill hc trivial (by decide), fillM_length, ?_⟩
    · have hg : (fillM l i n ⟨.free, 0#64⟩)[i]? = some ⟨.free, 0#64⟩ := by rw [fillM_get, if_pos (by omega), if_pos hil]
      unfold freeM
      have : atM (fillM l i n ⟨.free, 0#64⟩) ⟨i, ((0 : Nat) : Int), -1, n, false⟩ = none := by simp [atM, hg, Ck.kind]
      rw [this]
    · have e2 : (fillM l i n ⟨.free, 0#64⟩).map One.c = cs.take i ++ List.replicate n .free ++ cs.drop (i + n) := by
        rw [fillM_eq (by omega), List.map_append, List.map_append, List.map_take, List.map_drop, hl, List.map_replicate]
      rw [e2, blocks_put rl (by simp), blocks_mid rl, rm]
      rw [blocks_bare (X := List.replicate n .free) (fun c hc => by rw [List.eq_of_mem_replicate hc]; exact fun _ => rfl)]
      have : blocksFrom i (Ck.huge n :: List.replicate (n - 1) .tail) = [⟨i, 0, n * 32⟩] := by
        unfold blocksFrom
        rw [blocks_bare (X := List.replicate (n - 1) .tail) (fun c hc => by rw [List.eq_of_mem_replicate hc]; exact fun _ => rfl)]
        rfl
      rw [this]
      simp; omega
  · have hk : k < 3 := hok.1
    have h8 := (many_pos k hk).2
    rw [plB_run hw hk]
    generalize b.chunk = i at *
    generalize b.index = m at *
    have hn1 : ¬ (k : Int) = -1 := by omega
    have e1 : freeM l ⟨i, m, k, 0, false⟩ = some (l.set i ⟨.run k (bb &&& ~~~bitB m), 0#64⟩) := by
      unfold freeM
      rw [atM_run hli him]
      simp only [hli]
      have := and_bit_ne (show m < 64 by omega) hbit
      rw [if_neg (by simp [Ck.kind, Ck.bits]; simpa using this)]
      simp only [Ck.without, goneM]
      rw [if_neg hn1]
    refine ⟨_, e1, ?_, calm_set hc ⟨hk, and_lt hok.2⟩ (by simp [Ck.kind]), by rw [List.length_set], ?_⟩
    · unfold freeM
      rw [atM_run (b := bb &&& ~~~bitB m) (t := 0#64) (by simp [hil]) him]
      simp [hil, Ck.kind, Ck.bits, and_not_bit]
    · have hil2 : i < cs.length := lt_of_get hci
      rw [List.map_set, hl, blocks_set hil2, blocks_at hci]
      have hins := ((bits_and him (by omega) hbit).map fun j => (⟨i, j, blockOf k⟩ : Bl)).length
      rw [show blkOf i (.run k bb) = (bitsL bb (manyOf k)).map fun j => ⟨i, j, blockOf k⟩ from rfl, show blkOf i (.run k (bb &&& ~~~bitB m)) = (bitsL (bb &&& ~~~bitB m) (manyOf k)).map fun j => ⟨i, j, blockOf k⟩ from rfl]
      simp only [List.length_append]
      omega
end Go.Am.YtdcppkhobfbpeaaDoor
