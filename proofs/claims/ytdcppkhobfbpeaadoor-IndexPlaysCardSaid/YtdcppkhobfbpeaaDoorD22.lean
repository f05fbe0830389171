/-
  Tables that are right, and their blocks: what a chunk more, or a block more, comes to.
-/
import Derived.Test.YtdcppkhobfbpeaaDoorD18
import Derived.Test.YtdcppkhobfbpeaaDoorD21
set_option linter.unusedVariables false
set_option linter.unusedSimpArgs false
namespace Go.Am.YtdcppkhobfbpeaaDoor
open Go Go.Am Go.Proofs

/-- A chunk that stands alone. -/
def Ck.lone (c : Ck) : Prop := c.kind ≠ 2 ∧ c.kind ≠ 3
theorem right_lone {c : Ck} {r : List Ck} (h : c.lone) : rightAux 0 (c :: r) = rightAux 0 r := by
  cases c <;> first | rfl | (exact (h.1 rfl).elim) | (exact (h.2 rfl).elim) | simp [rightAux]
theorem right_app : ∀ {t : Nat} {A B : List Ck}, rightAux t A = true → rightAux t (A ++ B) = rightAux 0 B
  | t, [], B, h => by
    simp [rightAux] at h; subst h; rfl
  | t, c :: A, B, h => by
    rw [List.cons_append]
    cases c <;> simp only [rightAux, Bool.and_eq_true] at h ⊢ <;> rw [h.1, Bool.true_and, right_app h.2]
theorem right_split : ∀ {t i : Nat} {cs : List Ck} {c : Ck}, rightAux t cs = true → cs[i]? = some c → c.kind ≠ 3 → rightAux t (cs.take i) = true ∧ rightAux 0 (cs.drop i) = true
  | t, i, [], c, h, hc, hk => by simp at hc
  | t, 0, x :: cs, c, h, hc, hk => by
    simp at hc; subst hc
    have ht : t = 0 := by
      cases x <;> simp [rightAux] at h <;> first | exact h.1 | exact (hk rfl).elim
    subst ht
    exact ⟨rfl, h⟩
  | t, i + 1, x :: cs, c, h, hc, hk => by
    simp only [List.getElem?_cons_succ] at hc
    rw [List.take_succ_cons, List.drop_succ_cons]
    cases x <;> simp only [rightAux, Bool.and_eq_true] at h ⊢ <;> (obtain ⟨h1, h2⟩ := right_split h.2 hc hk; exact ⟨⟨h.1, h1⟩, h2⟩)
theorem right_tailsR : ∀ {t : Nat} {r : List Ck}, rightAux t (List.replicate t .tail ++ r) = rightAux 0 r
  | 0, r => rfl
  | t + 1, r => by
    rw [List.replicate_succ, List.cons_append]
    simp only [rightAux, Nat.add_sub_cancel]
    rw [right_tailsR]; simp
theorem right_tails_inv : ∀ {t : Nat} {cs : List Ck}, rightAux t cs = true → ∃ r, cs = List.replicate t .tail ++ r ∧ rightAux 0 r = true
  | 0, cs, h => ⟨cs, rfl, h⟩
  | t + 1, [], h => by simp [rightAux] at h
  | t + 1, c :: cs, h => by
    cases c with
    | tail =>
      simp only [rightAux, Bool.and_eq_true, Nat.add_sub_cancel] at h
      obtain ⟨r, h1, h2⟩ := right_tails_inv h.2
      exact ⟨r, by rw [h1, List.replicate_succ]; rfl, h2⟩
    | _ => simp [rightAux] at h
theorem split3 {α : Type} {l : List α} {i n : Nat} (h : i + n ≤ l.length) : l = l.take i ++ (l.drop i).take n ++ l.drop (i + n) := by
  rw [List.append_assoc, ← List.drop_drop, List.take_append_drop, List.take_append_drop]
theorem mid_get {α : Type} {l : List α} {i n j : Nat} (hj : j < n) : ((l.drop i).take n)[j]? = l[i + j]? := by
  rw [List.getElem?_take_of_lt hj, List.getElem?_drop]

/-- What stands alone is taken out, and something right is put in. -/
theorem right_put {cs : List Ck} {i n : Nat} {X : List Ck} (h : rightAux 0 cs = true) (hn : i + n ≤ cs.length) (h1 : 1 ≤ n) (hl : ∀ j, j < n → ∃ c, cs[i + j]? = some c ∧ c.lone) (hX : rightAux 0 X = true) :
    rightAux 0 (cs.take i ++ X ++ cs.drop (i + n)) = true := by
  obtain ⟨c0, hc0, l0⟩ := hl 0 (by omega)
  obtain ⟨c1, hc1, l1⟩ := hl (n - 1) (by omega)
  have a := (right_split h hc0 l0.2).1
  rw [Nat.add_zero] at a
  have b := (right_split h hc1 l1.2).2
  have hlt : i + (n - 1) < cs.length := by omega
  rw [List.drop_eq_getElem_cons hlt] at b
  have e : cs[i + (n - 1)] = c1 := by
    rw [List.getElem?_eq_getElem hlt] at hc1; exact Option.some.inj hc1
  rw [e, right_lone l1, show i + (n - 1) + 1 = i + n by omega] at b
  rw [List.append_assoc, right_app a, right_app hX]
  exact b
theorem right_set {cs : List Ck} {i : Nat} {c c' : Ck} (h : rightAux 0 cs = true) (hc : cs[i]? = some c) (hl : c.lone) (hl' : c'.lone) : rightAux 0 (cs.set i c') = true := by
  have hi := lt_of_get hc
  have := right_put (X := [c']) (i := i) (n := 1) h (by omega) (by omega) (fun j hj => ⟨c, by rw [show i + j = i by omega]; exact hc, hl⟩) (by rw [right_lone hl']; rfl)
  rwa [List.set_eq_take_append_cons_drop, if_pos hi, ← List.singleton_append, ← List.append_assoc]
theorem right_huge {n : Nat} (hn : 1 ≤ n) : rightAux 0 (.huge n :: List.replicate (n - 1) .tail) = true := by
  simp only [rightAux, decide_true, Bool.true_and]
  have := @right_tailsR (n - 1) []
  rw [List.append_nil] at this
  rw [this]; rfl
/-- A huge one is followed by its tails. -/
theorem huge_inv {cs : List Ck} {i n : Nat} (h : rightAux 0 cs = true) (hc : cs[i]? = some (.huge n)) (hn : 1 ≤ n) : rightAux 0 (cs.take i) = true ∧ i + n ≤ cs.length ∧ (cs.drop i).take n = .huge n :: List.replicate (n - 1) .tail ∧ rightAux 0 (cs.drop (i + n)) = true := by
  obtain ⟨a, b⟩ := right_split h hc (by simp [Ck.kind])
  have hi := lt_of_get hc
  rw [List.drop_eq_getElem_cons hi] at b
  have e : cs[i] = .huge n := by rw [List.getElem?_eq_getElem hi] at hc; exact Option.some.inj hc
  rw [e] at b
  simp only [rightAux, decide_true, Bool.true_and] at b
  obtain ⟨r, h1, h2⟩ := right_tails_inv b
  have hd : cs.drop i = .huge n :: (List.replicate (n - 1) .tail ++ r) := by rw [List.drop_eq_getElem_cons hi, e, h1]
  have hlen : (cs.drop i).length = n + r.length := by rw [hd]; simp; omega
  rw [List.length_drop] at hlen
  have ht : (cs.drop i).take n = .huge n :: List.replicate (n - 1) .tail := by
    rw [hd, show Ck.huge n :: (List.replicate (n - 1) .tail ++ r) = (Ck.huge n :: List.replicate (n - 1) .tail) ++ r from rfl]
    exact List.take_left' (by simp; omega)
  have hdd : cs.drop (i + n) = r := by
    rw [← List.drop_drop, hd, show Ck.huge n :: (List.replicate (n - 1) .tail ++ r) = (Ck.huge n :: List.replicate (n - 1) .tail) ++ r from rfl]
    exact List.drop_left' (by simp; omega)
  exact ⟨a, by omega, ht, by rw [hdd]; exact h2⟩
theorem right_lones {n : Nat} {c : Ck} (h : c.lone) : rightAux 0 (List.replicate n c) = true := by
  induction n with
  | zero => rfl
  | succ n ih => rw [List.replicate_succ, right_lone h]; exact ih

/-- One more. -/
def Ins {α : Type} (xs : List α) (x : α) (ys : List α) : Prop := ∃ A B, xs = A ++ B ∧ ys = A ++ x :: B
theorem Ins.ctx {α : Type} {xs ys : List α} {x : α} (h : Ins xs x ys) (P Q : List α) : Ins (P ++ xs ++ Q) x (P ++ ys ++ Q) := by
  obtain ⟨A, B, rfl, rfl⟩ := h
  exact ⟨P ++ A, B ++ Q, by simp, by simp⟩
theorem Ins.length {α : Type} {xs ys : List α} {x : α} (h : Ins xs x ys) : ys.length = xs.length + 1 := by
  obtain ⟨A, B, rfl, rfl⟩ := h
  simp; omega
theorem Ins.mem {α : Type} {xs ys : List α} {x y : α} (h : Ins xs x ys) : y ∈ ys ↔ y = x ∨ y ∈ xs := by
  obtain ⟨A, B, rfl, rfl⟩ := h
  simp only [List.mem_append, List.mem_cons]
  constructor
  · rintro (h | h | h)
    · exact .inr (.inl h)
    · exact .inl h
    · exact .inr (.inr h)
  · rintro (h | h | h)
    · exact .inr (.inl h)
    · exact .inl h
    · exact .inr (.inr h)
theorem Ins.map {α β : Type} {xs ys : List α} {x : α} (h : Ins xs x ys) (f : α → β) : Ins (xs.map f) (f x) (ys.map f) := by
  obtain ⟨A, B, rfl, rfl⟩ := h
  exact ⟨A.map f, B.map f, by simp, by simp⟩
theorem Ins.one {α : Type} {x : α} : Ins [] x [x] := ⟨[], [], rfl, rfl⟩

/-- A bit more. -/
theorem bits_ins {b b' : BitVec 64} {m n : Nat} (hm : m < n) (h0 : b.getLsbD m = false) (h1 : b'.getLsbD m = true) (hj : ∀ j, j ≠ m → b'.getLsbD j = b.getLsbD j) : Ins (bitsL b n) m (bitsL b' n) := by
  have hr : List.range n = List.range m ++ m :: (List.range (n - (m + 1))).map (m + 1 + ·) := by
    rw [show n = m + 1 + (n - (m + 1)) by omega, List.range_add, List.range_succ]
    simp
  have ha : (List.range m).filter (fun k => b'.getLsbD k) = (List.range m).filter (fun k => b.getLsbD k) := by
    refine List.filter_congr fun k hk => ?_
    rw [hj k (by have := List.mem_range.1 hk; omega)]
  have hb : ((List.range (n - (m + 1))).map (m + 1 + ·)).filter (fun k => b'.getLsbD k) = ((List.range (n - (m + 1))).map (m + 1 + ·)).filter (fun k => b.getLsbD k) := by
    refine List.filter_congr fun k hk => ?_
    obtain ⟨x, _, rfl⟩ := List.mem_map.1 hk
    rw [hj _ (by omega)]
  refine ⟨(List.range m).filter (fun k => b.getLsbD k), ((List.range (n - (m + 1))).map (m + 1 + ·)).filter (fun k => b.getLsbD k), ?_, ?_⟩
  · unfold bitsL
    rw [hr, List.filter_append, List.filter_cons_of_neg (by simp [h0])]
  · unfold bitsL
    rw [hr, List.filter_append, List.filter_cons_of_pos (by simpa using h1), ha, hb]
theorem bits_or {b : BitVec 64} {m n : Nat} (hm : m < n) (hn : n ≤ 64) (h0 : b.getLsbD m = false) : Ins (bitsL b n) m (bitsL (b ||| bitB m) n) := by
  refine bits_ins hm h0 ?_ fun j hj => ?_
  · rw [BitVec.getLsbD_or, bitB_get]; simp; right; omega
  · rw [BitVec.getLsbD_or, bitB_get]; simp [hj]
theorem bits_and {b : BitVec 64} {m n : Nat} (hm : m < n) (hn : n ≤ 64) (h0 : b.getLsbD m = true) : Ins (bitsL (b &&& ~~~bitB m) n) m (bitsL b n) := by
  refine bits_ins hm ?_ h0 fun j hj => ?_
  · have h6 : m < 64 := by omega
    rw [BitVec.getLsbD_and, BitVec.getLsbD_not, bitB_get]; simp [h6]
  · rw [BitVec.getLsbD_and, BitVec.getLsbD_not, bitB_get]
    by_cases hj6 : j < 64
    · simp [hj, hj6]
    · have := BitVec.getLsbD_of_ge b j (by omega)
      rw [this]; simp

/-- The blocks of a table, a part of which is another one. -/
theorem blocks_put {cs : List Ck} {i n : Nat} {X : List Ck} (hn : i + n ≤ cs.length) (hX : X.length = n) :
    blocksM (cs.take i ++ X ++ cs.drop (i + n)) = blocksM (cs.take i) ++ blocksFrom i X ++ blocksFrom (i + n) (cs.drop (i + n)) := by
  unfold blocksM
  rw [blocksFrom_app, blocksFrom_app]
  simp only [List.length_append, List.length_take, hX]
  rw [show 0 + min i cs.length = i by omega, show 0 + (min i cs.length + n) = i + n by omega]
theorem blocks_mid {cs : List Ck} {i n : Nat} (hn : i + n ≤ cs.length) : blocksM cs = blocksM (cs.take i) ++ blocksFrom i ((cs.drop i).take n) ++ blocksFrom (i + n) (cs.drop (i + n)) := by
  have := blocks_put (X := (cs.drop i).take n) hn (by simp; omega)
  rwa [← split3 hn] at this
def Ck.bare (c : Ck) : Prop := ∀ i, blkOf i c = []
theorem bare_may {c : Ck} (h : c.may = true) : c.bare := by
  intro i
  cases c with
  | run k b => simp [Ck.may] at h; subst h; simp [blkOf, bitsL_zero]
  | _ => first | rfl | simp [Ck.may] at h
theorem blocks_bare : ∀ {X : List Ck} {i : Nat}, (∀ c ∈ X, c.bare) → blocksFrom i X = []
  | [], i, _ => rfl
  | c :: X, i, h => by
    unfold blocksFrom
    rw [h c (by simp) i, blocks_bare fun c' hc => h c' (by simp [hc])]; rfl
theorem set_split {α : Type} {l : List α} {i : Nat} {x : α} (hi : i < l.length) : l.set i x = l.take i ++ [x] ++ l.drop (i + 1) := by
  rw [List.set_eq_take_append_cons_drop, if_pos hi, ← List.singleton_append, ← List.append_assoc]
theorem blocks_set {cs : List Ck} {i : Nat} {c : Ck} (hi : i < cs.length) : blocksM (cs.set i c) = blocksM (cs.take i) ++ blkOf i c ++ blocksFrom (i + 1) (cs.drop (i + 1)) := by
  rw [set_split hi, blocks_put (n := 1) (by omega) rfl]
  simp [blocksFrom]
theorem blocks_at {cs : List Ck} {i : Nat} {c : Ck} (hc : cs[i]? = some c) : blocksM cs = blocksM (cs.take i) ++ blkOf i c ++ blocksFrom (i + 1) (cs.drop (i + 1)) := by
  have := blocks_set (c := c) (lt_of_get hc)
  rwa [set_same hc] at this
theorem mem_from : ∀ {cs : List Ck} {i : Nat} {b : Bl}, b ∈ blocksFrom i cs → ∃ j c, cs[j]? = some c ∧ b ∈ blkOf (i + j) c
  | [], i, b, h => by simp [blocksFrom] at h
  | c :: cs, i, b, h => by
    unfold blocksFrom at h
    rcases List.mem_append.1 h with h1 | h1
    · exact ⟨0, c, rfl, h1⟩
    · obtain ⟨j, c', h2, h3⟩ := mem_from h1
      exact ⟨j + 1, c', by simpa using h2, by rw [show i + (j + 1) = i + 1 + j by omega]; exact h3⟩
theorem mem_blk {i : Nat} {c : Ck} {b : Bl} (h : b ∈ blkOf i c) : b.chunk = i ∧ ((∃ n, c = .huge n ∧ b.index = 0 ∧ b.words = n * 32) ∨ ∃ k bb, c = .run k bb ∧ b.words = blockOf k ∧ b.index < manyOf k ∧ bb.getLsbD b.index = true) := by
  cases c with
  | huge n => simp [blkOf] at h; subst h; exact ⟨rfl, .inl ⟨n, rfl, rfl, rfl⟩⟩
  | run k bb =>
    obtain ⟨j, hj, rfl⟩ := List.mem_map.1 h
    obtain ⟨h1, h2⟩ := List.mem_filter.1 hj
    exact ⟨rfl, .inr ⟨k, bb, rfl, rfl, List.mem_range.1 h1, h2⟩⟩
  | _ => simp [blkOf] at h
theorem mem_blocks {cs : List Ck} {b : Bl} (h : b ∈ blocksM cs) : ∃ c, cs[b.chunk]? = some c ∧ b ∈ blkOf b.chunk c := by
  obtain ⟨j, c, h1, h2⟩ := mem_from h
  rw [Nat.zero_add] at h2
  have := (mem_blk h2).1
  subst this
  exact ⟨c, h1, h2⟩
end Go.Am.YtdcppkhobfbpeaaDoor
