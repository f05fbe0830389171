/-
  The statement IndexDrops on the abstract machine.
-/
import Derived.Test.YtdcppkhobfbpeaaDoorD24
import Derived.Test.YtdcppkhobfbpeaaDoorD26
set_option linter.unusedVariables false
set_option linter.unusedSimpArgs false
namespace Go.Am.YtdcppkhobfbpeaaDoor
open Go Go.Am Go.Proofs

/-- Just these places are taken. -/
structure PInv (l : List One) (P : List Pl) : Prop where
  held : ∀ p ∈ P, ∃ i m, Held l p i m
  apart : P.Pairwise fun p q => ¬ (p.chunk = q.chunk ∧ p.index = q.index)
  only : ∀ (j b : Nat) (o : One), l[j]? = some o → o.t.getLsbD b = true → ∃ p ∈ P, p.chunk = j ∧ p.index = b
theorem PInv.take {l l' : List One} {P : List Pl} {p : Pl} {i m : Nat} (h : PInv l P) (t : TakeOK l l' p i m) : PInv l' (P ++ [p]) := by
  obtain ⟨e1, e2⟩ := t.held.chunk
  refine ⟨fun q hq => ?_, ?_, fun j b o ho hb => ?_⟩
  · rcases List.mem_append.1 hq with h1 | h1
    · obtain ⟨j, b, hj⟩ := h.held q h1
      exact ⟨j, b, (t.keep q j b hj).1⟩
    · simp at h1; subst h1; exact ⟨i, m, t.held⟩
  · rw [List.pairwise_append]
    refine ⟨h.apart, by simp, fun q hq q' hq' => ?_⟩
    simp at hq'; subst hq'
    obtain ⟨j, b, hj⟩ := h.held q hq
    obtain ⟨e3, e4⟩ := hj.chunk
    have := (t.keep q j b hj).2
    rintro ⟨e5, e6⟩
    exact this ⟨by omega, by omega⟩
  · rcases t.only j b o ho hb with ⟨rfl, rfl⟩ | ⟨o', ho', hb'⟩
    · exact ⟨p, by simp, e1, e2⟩
    · obtain ⟨q, hq, e⟩ := h.only j b o' ho' hb'
      exact ⟨q, by simp [hq], e⟩
theorem PInv.drop {l l' : List One} {P : List Pl} {p : Pl} {i m : Nat} (h : PInv l (p :: P)) (e1 : p.chunk = i ∧ p.index = m) (t : DropOK l l' p i m) : PInv l' P := by
  have ha := List.pairwise_cons.1 h.apart
  refine ⟨fun q hq => ?_, ha.2, fun j b o ho hb => ?_⟩
  · obtain ⟨j, b, hj⟩ := h.held q (by simp [hq])
    obtain ⟨e3, e4⟩ := hj.chunk
    have := ha.1 q hq
    exact ⟨j, b, t.keep q j b hj fun e => this ⟨by omega, by omega⟩⟩
  · obtain ⟨hne, o', ho', hb'⟩ := t.only j b o ho hb
    obtain ⟨q, hq, e⟩ := h.only j b o' ho' hb'
    rcases List.mem_cons.1 hq with h1 | h1
    · subst h1; exact (hne ⟨by omega, by omega⟩).elim
    · exact ⟨q, h1, e⟩
theorem PInv.perm {l : List One} {P P' : List Pl} (h : PInv l P) (hp : P.Perm P') : PInv l P' :=
  ⟨fun p hm => h.held p (hp.mem_iff.2 hm), (hp.pairwise_iff fun {x y} hxy e => hxy ⟨e.1.symm, e.2.symm⟩).1 h.apart, fun j b o ho hb => let ⟨p, hm, e⟩ := h.only j b o ho hb; ⟨p, hp.mem_iff.1 hm, e⟩⟩
theorem PInv.calm {l : List One} (hw : Wf l) (h : PInv l []) : Calm l := by
  refine ⟨fun o ho => ?_, hw.ok, hw.fits⟩
  obtain ⟨j, hj⟩ := List.getElem?_of_mem ho
  apply BitVec.eq_of_getLsbD_eq
  intro b hb
  cases hx : o.t.getLsbD b with
  | false => simp
  | true => obtain ⟨p, hp, _⟩ := h.only j b o hj hx; simp at hp
theorem calm_pinv {l : List One} (h : Calm l) : PInv l [] := ⟨by simp, by simp, fun j b o ho hb => by
  have := h.t0 o (List.mem_of_getElem? ho); rw [this] at hb; simp at hb⟩
theorem tableAux_mem : ∀ {left : Nat} {l : List One} {c : Ck}, c ∈ tableAux left l → c = .free ∨ ∃ o ∈ l, c = o.c
  | left, [], c, h => by simp [tableAux] at h
  | left, o :: l, c, h => by
    unfold tableAux at h
    rcases List.mem_cons.1 h with h1 | h1
    · split at h1
      · exact .inl h1
      · exact .inr ⟨o, by simp, h1⟩
    · rcases tableAux_mem h1 with h2 | ⟨o', h2, h3⟩
      · exact .inl h2
      · exact .inr ⟨o', by simp [h2], h3⟩
theorem Wf.table {l : List One} (h : Wf l) : ∀ c ∈ tableM l, c.ok := fun c hc => by
  rcases tableAux_mem hc with rfl | ⟨o, ho, rfl⟩
  · trivial
  · exact h.ok o ho
theorem tableAux_length : ∀ {left : Nat} {l : List One}, (tableAux left l).length = l.length
  | left, [] => rfl
  | left, o :: l => by unfold tableAux; rw [List.length_cons, tableAux_length, List.length_cons]
theorem table_length {l : List One} : (tableM l).length = l.length := tableAux_length
theorem rot_get {α : Type} {P : List α} {b j : Nat} (hj : j < P.length) : (P.drop (b % P.length) ++ P.take (b % P.length))[j]? = P[(j + b) % P.length]? := by
  have hk : b % P.length < P.length := Nat.mod_lt _ (by omega)
  have e : (j + b) % P.length = (j + b % P.length) % P.length := by rw [Nat.add_mod, Nat.add_mod j (b % P.length), Nat.mod_mod]
  rw [e]
  generalize b % P.length = k at *
  by_cases h : j < P.length - k
  · rw [List.getElem?_append_left (by simp; omega), List.getElem?_drop, Nat.mod_eq_of_lt (by omega), Nat.add_comm]
  · rw [List.getElem?_append_right (by simp; omega), List.length_drop, List.getElem?_take_of_lt (by omega)]
    congr 1
    rw [Nat.mod_eq_sub_mod (by omega), Nat.mod_eq_of_lt (by omega)]
    omega
theorem rot_perm {α : Type} {P : List α} {k : Nat} : P.Perm (P.drop k ++ P.take k) := by
  have := @List.perm_append_comm _ (P.take k) (P.drop k)
  rwa [List.take_append_drop] at this

theorem IX.keep {h h' : Heap} {xb lb : Nat} {l : List One} (hi : IX h xb lb l) (hn : h.n ≤ h'.n) (hx : h'.get xb = h.get xb) (hl : h'.get lb = h.get lb) : IX h' xb lb l :=
  ⟨by have := hi.xn; omega, by have := hi.ln; omega, hi.ne, hx.trans hi.x, fun hne => hl.trans (hi.l hne)⟩
theorem news_wf (ns : List Nat) : Wf (news (madeM ns)) := ⟨(news_calm ns).ok, by rw [news_c]; exact madeM_right ns⟩
end Go.Am.YtdcppkhobfbpeaaDoor
