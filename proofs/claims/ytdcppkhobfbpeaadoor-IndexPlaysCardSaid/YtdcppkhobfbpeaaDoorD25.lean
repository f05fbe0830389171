/-
  A part of an index that stands on its own is another one: what comes of it.
-/
import Derived.Test.YtdcppkhobfbpeaaDoorD23
set_option linter.unusedVariables false
set_option linter.unusedSimpArgs false
namespace Go.Am.YtdcppkhobfbpeaaDoor
open Go Go.Am Go.Proofs

/-- An index whose chunks are right. -/
structure Wf (l : List One) : Prop where
  ok : ∀ o ∈ l, o.c.ok
  right : rightAux 0 (l.map One.c) = true
theorem Wf.fits {l : List One} (h : Wf l) : Fits l := by
  intro i o ho hk
  obtain ⟨n, e⟩ := Ck.kind_huge hk
  have hok := h.ok o (List.mem_of_getElem? ho)
  have hc : (l.map One.c)[i]? = some (.huge n) := by rw [List.getElem?_map, ho, ← e]; rfl
  rw [e] at hok ⊢
  have := (huge_inv h.right hc hok.1).2.1
  rw [List.length_map] at this
  exact this

theorem table_app : ∀ {t left : Nat} {A B : List One}, rightAux t (A.map One.c) = true → left ≤ t → tableAux left (A ++ B) = tableAux left A ++ tableAux 0 B
  | t, left, [], B, h, hl => by
    simp [rightAux] at h
    obtain rfl : left = 0 := by omega
    rfl
  | t, left, o :: A, B, h, hl => by
    rw [List.cons_append]
    obtain ⟨c, tt⟩ := o
    rw [List.map_cons] at h
    have key : ∀ {t' left' : Nat}, rightAux t' (A.map One.c) = true → left' ≤ t' → tableAux left' (A ++ B) = tableAux left' A ++ tableAux 0 B := table_app
    show _ :: tableAux _ (A ++ B) = (_ :: tableAux _ A) ++ _
    rw [List.cons_append]
    congr 1
    cases c with
    | tail =>
      simp only [rightAux, Bool.and_eq_true] at h
      refine key h.2 ?_
      simp [leftOf, Ck.kind]; omega
    | huge n =>
      simp only [rightAux, Bool.and_eq_true, decide_eq_true_eq] at h
      refine key h.2 ?_
      obtain ⟨rfl, _⟩ := h
      obtain rfl : left = 0 := by omega
      unfold leftOf
      split
      · exact Nat.le_refl _
      · omega
    | _ =>
      simp only [rightAux, Bool.and_eq_true, decide_eq_true_eq] at h
      refine key h.2 ?_
      obtain ⟨rfl, _⟩ := h
      obtain rfl : left = 0 := by omega
      simp [leftOf, Ck.kind]

/-- A part is another one. -/
structure Sw (l l' : List One) (A X X' B : List One) : Prop where
  l : l = A ++ X ++ B
  l' : l' = A ++ X' ++ B
  a : rightAux 0 (A.map One.c) = true
  x : rightAux 0 (X.map One.c) = true
  x' : rightAux 0 (X'.map One.c) = true
  b : rightAux 0 (B.map One.c) = true
  len : X'.length = X.length
theorem Sw.right {l l' A X X' B : List One} (h : Sw l l' A X X' B) : rightAux 0 (l'.map One.c) = true := by
  rw [h.l', List.map_append, List.map_append, List.append_assoc, right_app h.a, right_app h.x', h.b]
theorem Sw.table {l l' A X X' B : List One} (h : Sw l l' A X X' B) : tableM l = tableM A ++ tableM X ++ tableM B ∧ tableM l' = tableM A ++ tableM X' ++ tableM B := by
  unfold tableM
  constructor
  · rw [h.l, List.append_assoc, table_app h.a (Nat.le_refl _), table_app h.x (Nat.le_refl _), List.append_assoc]
  · rw [h.l', List.append_assoc, table_app h.a (Nat.le_refl _), table_app h.x' (Nat.le_refl _), List.append_assoc]
theorem Sw.length {l l' A X X' B : List One} (h : Sw l l' A X X' B) : l'.length = l.length := by
  rw [h.l, h.l']; simp [h.len]
theorem Sw.wf {l l' A X X' B : List One} (h : Sw l l' A X X' B) (hw : Wf l) (hx : ∀ o ∈ X', o.c.ok) : Wf l' := by
  refine ⟨fun o ho => ?_, h.right⟩
  rw [h.l'] at ho
  have hall := hw.ok o
  rw [h.l] at hall
  simp only [List.mem_append] at ho hall
  rcases ho with (h1 | h1) | h1
  · exact hall (.inl (.inl h1))
  · exact hx o h1
  · exact hall (.inr h1)
theorem Sw.get {l l' A X X' B : List One} (h : Sw l l' A X X' B) (j : Nat) (hj : j < A.length ∨ A.length + X.length ≤ j) : l'[j]? = l[j]? := by
  rw [h.l, h.l']
  rcases hj with hj | hj
  · rw [List.append_assoc, List.append_assoc, List.getElem?_append_left hj, List.getElem?_append_left hj]
  · rw [List.getElem?_append_right (by simp [h.len]; omega), List.getElem?_append_right (by simp; omega)]
    congr 1
    simp [h.len]

/-- One chunk is another one. -/
theorem sw_set {l : List One} {i : Nat} {o o' : One} (hw : Wf l) (ho : l[i]? = some o) (hl : o.c.lone) (hl' : o'.c.lone) : Sw l (l.set i o') (l.take i) [o] [o'] (l.drop (i + 1)) := by
  have hi := lt_of_get ho
  have hc : (l.map One.c)[i]? = some o.c := by rw [List.getElem?_map, ho]; rfl
  obtain ⟨ra, rb⟩ := right_split hw.right hc hl.2
  have hd : (l.map One.c).drop i = o.c :: (l.map One.c).drop (i + 1) := by
    have hi2 := lt_of_get hc
    rw [List.drop_eq_getElem_cons hi2]
    congr 1
    rw [List.getElem?_eq_getElem hi2] at hc; exact Option.some.inj hc
  rw [hd, right_lone hl] at rb
  refine ⟨?_, set_split hi, by rw [List.map_take]; exact ra, ?_, ?_, by rw [List.map_drop]; exact rb, rfl⟩
  · rw [← set_split hi, set_same ho]
  · rw [List.map_singleton, right_lone hl]; rfl
  · rw [List.map_singleton, right_lone hl']; rfl
theorem drop_mid {α : Type} {l : List α} {i n : Nat} : (l.drop i).take n ++ l.drop (i + n) = l.drop i := by
  rw [← List.drop_drop, List.take_append_drop]

/-- Chunks in a row, each alone, are others. -/
theorem sw_row {l : List One} {i n : Nat} {X' : List One} (hw : Wf l) (hn : i + n ≤ l.length) (h1 : 1 ≤ n) (hl : ∀ j, j < n → ∃ o, l[i + j]? = some o ∧ o.c.lone) (hx : rightAux 0 (X'.map One.c) = true) (hlen : X'.length = n) :
    Sw l (l.take i ++ X' ++ l.drop (i + n)) (l.take i) ((l.drop i).take n) X' (l.drop (i + n)) := by
  obtain ⟨o0, ho0, l0⟩ := hl 0 (by omega)
  obtain ⟨o1, ho1, l1⟩ := hl (n - 1) (by omega)
  have c0 : (l.map One.c)[i + 0]? = some o0.c := by rw [List.getElem?_map, ho0]; rfl
  have c1 : (l.map One.c)[i + (n - 1)]? = some o1.c := by rw [List.getElem?_map, ho1]; rfl
  have ra := (right_split hw.right c0 l0.2).1
  rw [Nat.add_zero] at ra
  have rb := (right_split hw.right c1 l1.2).2
  have hlt := lt_of_get c1
  rw [List.drop_eq_getElem_cons hlt] at rb
  have e : (l.map One.c)[i + (n - 1)] = o1.c := by
    rw [List.getElem?_eq_getElem hlt] at c1; exact Option.some.inj c1
  rw [e, right_lone l1, show i + (n - 1) + 1 = i + n by omega] at rb
  refine ⟨split3 hn, rfl, by rw [List.map_take]; exact ra, ?_, hx, by rw [List.map_drop]; exact rb, by simp; omega⟩
  have lones : ∀ (X : List One), (∀ o ∈ X, o.c.lone) → rightAux 0 (X.map One.c) = true := by
    intro X
    induction X with
    | nil => intro _; rfl
    | cons o X ih => intro h; rw [List.map_cons, right_lone (h o (by simp))]; exact ih fun o' ho' => h o' (by simp [ho'])
  refine lones _ fun o ho => ?_
  obtain ⟨j, hj⟩ := List.getElem?_of_mem ho
  have hjn : j < n := by have := lt_of_get hj; simp at this; omega
  rw [mid_get hjn] at hj
  obtain ⟨o', ho', hlo⟩ := hl j hjn
  rw [ho'] at hj
  injection hj with hj
  rw [← hj]; exact hlo

/-- A huge one is another thing. -/
theorem sw_huge {l : List One} {i n : Nat} {t : BitVec 64} {X' : List One} (hw : Wf l) (ho : l[i]? = some ⟨.huge n, t⟩) (hx : rightAux 0 (X'.map One.c) = true) (hlen : X'.length = n) :
    Sw l (l.take i ++ X' ++ l.drop (i + n)) (l.take i) ((l.drop i).take n) X' (l.drop (i + n)) ∧ ((l.drop i).take n).map One.c = .huge n :: List.replicate (n - 1) .tail ∧ i + n ≤ l.length ∧ 1 ≤ n ∧ (l.drop i).take n = ⟨.huge n, t⟩ :: (l.drop (i + 1)).take (n - 1) := by
  have hok : 1 ≤ n := (hw.ok _ (List.mem_of_getElem? ho)).1
  have hc : (l.map One.c)[i]? = some (.huge n) := by rw [List.getElem?_map, ho]; rfl
  obtain ⟨ra, rl, rm, rb⟩ := huge_inv hw.right hc hok
  rw [List.length_map] at rl
  have hi := lt_of_get ho
  have e : (l.drop i).take n = ⟨.huge n, t⟩ :: (l.drop (i + 1)).take (n - 1) := by
    rw [List.drop_eq_getElem_cons hi]
    have : l[i] = ⟨.huge n, t⟩ := by rw [List.getElem?_eq_getElem hi] at ho; exact Option.some.inj ho
    rw [this]
    obtain ⟨m, rfl⟩ : ∃ m, n = m + 1 := ⟨n - 1, by omega⟩
    rfl
  have em : ((l.drop i).take n).map One.c = .huge n :: List.replicate (n - 1) .tail := by rw [List.map_take, List.map_drop]; exact rm
  refine ⟨⟨split3 rl, rfl, by rw [List.map_take]; exact ra, ?_, hx, by rw [List.map_drop]; exact rb, by simp; omega⟩, em, rl, hok, e⟩
  rw [em]; exact right_huge hok

/-- The tables' chunks are the same, but for those that may be had. -/
def Alike : List Ck → List Ck → Prop
  | [], [] => True
  | c :: r, c' :: r' => (c' = c ∨ (c.may = true ∧ c'.may = true)) ∧ Alike r r'
  | _, _ => False
theorem Alike.refl : ∀ (l : List Ck), Alike l l
  | [] => trivial
  | _ :: l => ⟨.inl rfl, Alike.refl l⟩
theorem Alike.app : ∀ {a a' b b' : List Ck}, Alike a a' → Alike b b' → Alike (a ++ b) (a' ++ b')
  | [], [], b, b', _, h => h
  | [], _ :: _, b, b', h, _ => h.elim
  | _ :: _, [], b, b', h, _ => h.elim
  | c :: a, c' :: a', b, b', h, k => ⟨h.1, Alike.app h.2 k⟩
theorem Alike.trans : ∀ {a b c : List Ck}, Alike a b → Alike b c → Alike a c
  | [], [], [], _, _ => trivial
  | [], [], _ :: _, _, h => h.elim
  | [], _ :: _, _, h, _ => h.elim
  | _ :: _, [], _, h, _ => h.elim
  | _ :: _, _ :: _, [], _, h => h.elim
  | x :: a, y :: b, z :: c, h, k => by
    refine ⟨?_, Alike.trans h.2 k.2⟩
    rcases h.1 with rfl | ⟨h1, h2⟩
    · exact k.1
    · rcases k.1 with rfl | ⟨k1, k2⟩
      · exact .inr ⟨h1, h2⟩
      · exact .inr ⟨h1, k2⟩
theorem Alike.mays : ∀ {a b : List Ck}, (∀ c ∈ a, c.may = true) → (∀ c ∈ b, c.may = true) → a.length = b.length → Alike a b
  | [], [], _, _, _ => trivial
  | [], _ :: _, _, _, h => by simp at h
  | _ :: _, [], _, _, h => by simp at h
  | c :: a, c' :: b, h, k, e => ⟨.inr ⟨h c (by simp), k c' (by simp)⟩, Alike.mays (fun x hx => h x (by simp [hx])) (fun x hx => k x (by simp [hx])) (by simpa using e)⟩
theorem Alike.blocks : ∀ {a b : List Ck} {i : Nat}, Alike a b → blocksFrom i a = blocksFrom i b
  | [], [], _, _ => rfl
  | [], _ :: _, _, h => h.elim
  | _ :: _, [], _, h => h.elim
  | c :: a, c' :: b, i, h => by
    unfold blocksFrom
    rw [Alike.blocks h.2]
    rcases h.1 with rfl | ⟨h1, h2⟩
    · rfl
    · rw [bare_may h1 i, bare_may h2 i]
theorem Alike.may : ∀ {a b : List Ck}, Alike a b → a.map Ck.may = b.map Ck.may
  | [], [], _ => rfl
  | [], _ :: _, h => h.elim
  | _ :: _, [], h => h.elim
  | c :: a, c' :: b, h => by
    rw [List.map_cons, List.map_cons, Alike.may h.2]
    rcases h.1 with rfl | ⟨h1, h2⟩
    · rfl
    · rw [h1, h2]
theorem Sw.alike {l l' A X X' B : List One} (h : Sw l l' A X X' B) (hx : Alike (tableM X) (tableM X')) : Alike (tableM l) (tableM l') := by
  rw [h.table.1, h.table.2]
  exact ((Alike.refl _).app hx).app (Alike.refl _)

/-- Tables of parts. -/
theorem table_lone {o : One} (h : o.c.kind ≠ 2) : tableM [o] = [o.c] := by
  have e : leftOf 0 o = 0 := by unfold leftOf; simp [h]
  unfold tableM tableAux
  rw [e, if_neg (by decide)]; rfl
theorem tableAux_tails : ∀ {n : Nat} {R : List One}, R.map One.c = List.replicate n .tail → tableAux n R = List.replicate n .free ∧ tableAux 0 R = List.replicate n .tail
  | 0, R, h => by
    have : R = [] := by simpa using h
    subst this; exact ⟨rfl, rfl⟩
  | n + 1, [], h => by simp [List.replicate_succ] at h
  | n + 1, o :: R, h => by
    rw [List.map_cons, List.replicate_succ] at h
    injection h with h1 h2
    obtain ⟨a, b⟩ := tableAux_tails h2
    have e : ∀ k, leftOf k o = k := fun k => by unfold leftOf; rw [h1]; simp [Ck.kind]
    unfold tableAux
    rw [e, e, if_pos (by omega), if_neg (by decide), Nat.add_sub_cancel, a, b, h1, List.replicate_succ, List.replicate_succ]
    exact ⟨rfl, rfl⟩
theorem table_huge {n : Nat} {t : BitVec 64} {R : List One} (h : R.map One.c = List.replicate (n - 1) .tail) (hn : 1 ≤ n) : tableM (⟨.huge n, t⟩ :: R) = if t = 0#64 then .huge n :: List.replicate (n - 1) .tail else List.replicate n .free := by
  obtain ⟨a, b⟩ := tableAux_tails h
  by_cases ht : t = 0#64
  · have e : leftOf 0 ⟨.huge n, t⟩ = 0 := by unfold leftOf; simp [ht]
    unfold tableM tableAux
    rw [e, if_neg (by decide), if_pos ht, b]
  · have e : leftOf 0 ⟨.huge n, t⟩ = n := by unfold leftOf; simp [ht, Ck.kind, Ck.many]
    unfold tableM tableAux
    rw [e, if_neg ht, if_pos (by omega), a]
    obtain ⟨m, rfl⟩ : ∃ m, n = m + 1 := ⟨n - 1, by omega⟩
    rfl
theorem table_lones : ∀ {X : List One}, (∀ o ∈ X, o.c.lone) → tableM X = X.map One.c
  | [], _ => rfl
  | o :: X, h => by
    have ho := h o (by simp)
    have := table_app (t := 0) (left := 0) (A := [o]) (B := X) (by rw [List.map_singleton, right_lone ho]; rfl) (Nat.le_refl _)
    show tableAux 0 ([o] ++ X) = _
    rw [this]
    have e1 := table_lone ho.1
    have e2 := table_lones (X := X) fun o' ho' => h o' (by simp [ho'])
    unfold tableM at e1 e2
    rw [e1, e2]; rfl

/-- A chunk that may be had. -/
theorem free_cases {o : One} (h : o.free = true) : o.c = .free ∨ ∃ k, o.c = .run k 0#64 ∧ o.t = 0#64 := by
  obtain ⟨c, t⟩ := o
  cases c with
  | free => exact .inl rfl
  | run k b =>
    simp [One.free] at h
    exact .inr ⟨k, by rw [h.1], h.2⟩
  | _ => simp [One.free] at h
theorem free_lone {o : One} (h : o.free = true) : o.c.lone ∧ o.c.may = true := by
  rcases free_cases h with e | ⟨k, e, _⟩ <;> rw [e] <;> exact ⟨⟨by simp [Ck.kind], by simp [Ck.kind]⟩, by simp [Ck.may]⟩
theorem free_at {l : List One} {j : Nat} (h : (frees l)[j]? = some true) : ∃ o, l[j]? = some o ∧ o.free = true := by
  unfold frees at h
  rw [List.getElem?_map] at h
  cases ho : l[j]? with
  | none => rw [ho] at h; cases h
  | some o => rw [ho] at h; exact ⟨o, rfl, by simpa using h⟩
end Go.Am.YtdcppkhobfbpeaaDoor
